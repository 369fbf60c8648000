/- Walks: steps as a path, from a node on. -/
import Derived.Test.YtjhkehloipmjfaaGreatGX
import Derived.Test.YtjhkehloipmjfaaGreatG3
import Derived.Test.YtjhkehloipmjfaaGreatQI
import Derived.Test.YtjhkehloipmjfaaGreatQM
import Derived.Test.YtjhkehloipmjfaaGreatMC
set_option maxRecDepth 100000
set_option maxHeartbeats 16000000
namespace Go.Proofs.YtjhkehloipmjfaaGreat
open Go.RowKit
structure PathOk (g : Gr) (ns es : List Int) : Prop where
  len : ns.length = es.length + 1
  nodes : ∀ n ∈ ns, 0 ≤ n ∧ n < g.nodes.length
  edges : ∀ e ∈ es, 0 ≤ e ∧ e < g.edges.length
  link : ∀ (i : Nat) (e x y : Int), es[i]? = some e → ns[i]? = some x → ns[i + 1]? = some y → ∃ d, g.edges[e.toNat]? = some d ∧ ((d.src = x ∧ d.dst = y) ∨ (d.src = y ∧ d.dst = x))
theorem PathOk.one {g : Gr} {n : Int} (h : 0 ≤ n ∧ n < g.nodes.length) : PathOk g [n] [] :=
  ⟨rfl, fun m hm => by obtain rfl := List.mem_singleton.1 hm; exact h, by simp, by simp⟩
theorem PathOk.step {g : Gr} {ns es : List Int} {x y e : Int} {d : Ed} (h : PathOk g ns es) (hl : ns[es.length]? = some x) (hy : 0 ≤ y ∧ y < g.nodes.length) (he : 0 ≤ e) (hd : g.edges[e.toNat]? = some d) (hxy : (d.src = x ∧ d.dst = y) ∨ (d.src = y ∧ d.dst = x)) : PathOk g (ns ++ [y]) (es ++ [e]) := by
  obtain ⟨h1, h2, h3, h4⟩ := h
  have hlt := (List.getElem?_eq_some_iff.1 hd).1
  refine ⟨by simp [h1], fun n hn => ?_, fun n hn => ?_, fun i e' x' y' q1 q2 q3 => ?_⟩
  · rcases List.mem_append.1 hn with hn | hn
    · exact h2 n hn
    · obtain rfl := List.mem_singleton.1 hn; exact hy
  · rcases List.mem_append.1 hn with hn | hn
    · exact h3 n hn
    · obtain rfl := List.mem_singleton.1 hn; exact ⟨he, by omega⟩
  · by_cases hi : i < es.length
    · rw [List.getElem?_append_left hi] at q1
      rw [List.getElem?_append_left (by omega)] at q2 q3
      exact h4 i e' x' y' q1 q2 q3
    · have hi2 : i = es.length := by
        have := (List.getElem?_eq_some_iff.1 q1).1
        simp at this; omega
      subst hi2
      rw [List.getElem?_append_right (by omega)] at q1 q3
      rw [List.getElem?_append_left (by omega), hl] at q2
      simp only [Nat.sub_self, List.getElem?_cons_zero, Option.some.injEq] at q1
      rw [show es.length + 1 - ns.length = 0 by omega] at q3
      simp only [List.getElem?_cons_zero, Option.some.injEq] at q2 q3
      subst q1; subst q2; subst q3
      exact ⟨d, hd, hxy⟩
theorem zfB (l : List Int) : sized 1 (l.map encI) = true := by
  unfold sized; rw [List.all_map]; exact List.all_eq_true.2 fun _ _ => rfl
theorem zhz {g : Gr} (h : graphRight g = 0) : ∀ d ∈ g.edges, (0 ≤ d.src ∧ d.src < g.nodes.length) ∧ (0 ≤ d.dst ∧ d.dst < g.nodes.length) := fun d hd => by
  unfold graphRight at h
  split at h
  · omega
  · split at h
    · rename_i hh
      simp only [Bool.and_eq_true, List.all_eq_true] at hh
      have := hh.2 d hd
      unfold edgeR inN at this
      simp only [Bool.and_eq_true, decide_eq_true_eq] at this
      omega
    · omega
def Near (g : Gr) (x e : Int) : Prop := 0 ≤ e ∧ ∃ d, g.edges[e.toNat]? = some d ∧ (d.src = x ∨ d.dst = x)
theorem zkU (g : Gr) (src : Int) (steps : List Int) (hr : graphRight g = 0) (h0 : 0 < g.nodes.length) (h8 : g.nodes.length ≤ 8) (h10 : g.edges.length ≤ 10) :
    CallsN Tryz.prog 18 [.dat (encG g), vI src, vL (steps.map encI)] [] (fun y σ1 => ∃ i : List Int × List Int, y = .dat [.sl (i.1.map encI), .sl (i.2.map encI)] ∧ σ1 = [] ∧ (PathOk g i.1 i.2 ∧ i.2.length ≤ 5)) := by
  have hln : (g.nodes.map encNd).length = g.nodes.length := List.length_map _
  have hle : (g.edges.map encEd).length = g.edges.length := List.length_map _
  have hls : (steps.map encI).length = steps.length := List.length_map _
  have hE := zhz hr
  have hc1 : 0 ≤ (IntKind.i64.wrap ((BitVec.ofInt IntKind.i64.bits src &&& BitVec.ofInt IntKind.i64.bits 255).toNat : Nat)) ∧ (IntKind.i64.wrap ((BitVec.ofInt IntKind.i64.bits src &&& BitVec.ofInt IntKind.i64.bits 255).toNat : Nat)) ≤ 255 := zhN src 255 (by decide)
  have hnd := zib (a := (IntKind.i64.wrap ((BitVec.ofInt IntKind.i64.bits src &&& BitVec.ofInt IntKind.i64.bits 255).toNat : Nat))) (b := ((g.nodes.map encNd).length : Int)) hc1.1 (by omega)
  unfold encG
  (refine zam (Ty := Ty) zag Tryz.func18 rfl rfl rfl (by rfl) fun w0 S0 hp => ?_; simp only [argsF, List.zipIdx_cons, List.zipIdx_nil, List.map_cons, List.map_nil, Nat.zero_add])
  iterate 22 (first | refine zac ?_ | refine zaa ?_ | ((first | refine zab ?_ ); (first | change W _ _ _ _ _ )) | (refine isRL ?_; first | refine uRem ?_ | refine uBdZ ?_ | refine uAlO ?_ | refine uMv ?_ | refine uAs ?_ | (refine isBin ?_; first | refine uP ?_) | (refine isLd ?_; first | refine uL1 ?_ ) | (refine isCl ?_; first | refine uP ?_ ) | (refine isFa ?_; first | refine uP ?_) | (refine isSt ?_; first | refine uSo ?_) | refine uBs ?_ | refine uBx ?_ ) )
  refine uNilO 8 1002 1 3 1 ?_
  refine uRn 20 1001 (zaS (hp 1001 rfl)) ?_
  refine uRn 8 1000 (zaS (hp 1000 rfl)) ?_
  generalize ((IntKind.i64.wrap ((BitVec.ofInt IntKind.i64.bits src &&& BitVec.ofInt IntKind.i64.bits 255).toNat : Nat))).tmod ((g.nodes.map encNd).length : Int) = x0 at hnd ⊢
  rw [hln] at hnd
  repeat' (first | refine zac ?_ | refine zaa ?_ | ((first | refine zab ?_ ); (first | change W _ _ _ _ _ )) | (refine isRL ?_; first | refine uAs ?_ ) | refine zad ?_ )
  refine zaL (α := Nat × Int × List Int × List Int) (fun x => [(2, vL (steps.map encI)), (3, .one (.po 3 0)), (6, .one (.po 6 0)), (7, vI x.2.1), (8, .one (.po 1000 0)), (9, vI x.1)])
    (fun x => [(3, .box 25 [.sl (g.nodes.map encNd), .sl (g.edges.map encEd)]), (6, .obj 60 [.d (.v (.slice none 0 0)), .d (.v (.slice none 0 0))]), (1000, .obj 60 [.own 1001 (x.2.2.1.map encI), .own 1002 (x.2.2.2.map encI)]), (1001, .tok 3 1), (1002, .tok 3 1)])
    (fun x => x.1 ≤ 5 ∧ x.1 ≤ steps.length ∧ (0 ≤ x.2.1 ∧ x.2.1 < g.nodes.length) ∧ PathOk g x.2.2.1 x.2.2.2 ∧ x.2.2.2.length = x.1 ∧ x.2.2.1[x.1]? = some x.2.1) (fun x => 5 - x.1) (0, x0, [x0], []) ⟨Nat.zero_le _, Nat.zero_le _, hnd, PathOk.one hnd, rfl, rfl⟩ subA subA ?_
  rintro ⟨i, x, ns, es⟩ ⟨hi5, hi, hx, hP, hel, hnx⟩
  dsimp only at hi5 hi hx hP hel hnx ⊢
  have hns := hP.len
  have zn := zfB ns
  have ze := zfB es
  have hlN : (ns.map encI).length = ns.length := List.length_map _
  have hlE : (es.map encI).length = es.length := List.length_map _
  by_cases hlt : i < 5 ∧ i < steps.length
  · obtain ⟨h5, hs⟩ := hlt
    obtain ⟨st, hst⟩ : ∃ st, steps[i]? = some st := ⟨_, List.getElem?_eq_getElem hs⟩
    iterate 21 (first | refine zac ?_ | refine zaa ?_ | ((first | refine zab ?_ | refine zaf ?_ ); (first | change W _ _ _ _ _ )) | (refine isRL ?_; first | refine uMv ?_ | refine uAs ?_ | (refine isBin ?_; first | refine uBb true ?_ ) | (refine isCl ?_; first | refine uP ?_ ) | refine uP ?_ ) | refine zad ?_ | refine wT fun _ => ?_ )
    refine uNil 10 1003 3 1 ?_
    repeat' (first | refine zac ?_ | refine zaa ?_ | ((first | refine zab ?_ ); (first | change W _ _ _ _ _ )) | (refine isRL ?_; first | refine uAs ?_ ) | refine zad ?_ )
    refine zaL (α := Nat × List Int) (fun z => [(2, vL (steps.map encI)), (3, .one (.po 3 0)), (6, .one (.po 6 0)), (7, vI x), (8, .one (.po 1000 0)), (9, vI i), (10, .one (.own 1003 (z.2.map encI))), (11, vI z.1)])
      (fun z => [(3, .box 25 [.sl (g.nodes.map encNd), .sl (g.edges.map encEd)]), (6, .obj 60 [.d (.v (.slice none 0 0)), .d (.v (.slice none 0 0))]), (1000, .obj 60 [.own 1001 (ns.map encI), .own 1002 (es.map encI)]), (1001, .tok 3 1), (1002, .tok 3 1), (1003, .tok 3 1)])
      (fun z => z.1 ≤ g.edges.length ∧ z.2.length ≤ z.1 ∧ ∀ y ∈ z.2, Near g x y) (fun z => g.edges.length - z.1) (0, []) ⟨Nat.zero_le _, Nat.le_refl _, by simp⟩ subA subA ?_
    rintro ⟨k, l⟩ ⟨hk, hll, hnear⟩
    dsimp only at hk hll hnear ⊢
    have zl := zfB l
    have hlL : (l.map encI).length = l.length := List.length_map _
    by_cases hke : k < g.edges.length
    · obtain ⟨d, hd⟩ : ∃ d, g.edges[k]? = some d := ⟨_, List.getElem?_eq_getElem hke⟩
      have hap : l.map encI ++ [encI (k : Int)] = (l ++ [(k : Int)]).map encI := by rw [List.map_append]; rfl
      have hyes : (d.src = x ∨ d.dst = x) → ∀ y ∈ l ++ [(k : Int)], Near g x y := fun h y hy => by
        rcases List.mem_append.1 hy with hy | hy
        · exact hnear y hy
        · obtain rfl := List.mem_singleton.1 hy
          exact ⟨Int.natCast_nonneg k, d, by rw [Int.toNat_natCast]; exact hd, h⟩
      by_cases hs1 : d.src = x
      · repeat' (first | refine zac ?_ | refine zaa ?_ | ((first | refine zab ?_ | refine zaf ?_ ); (first | change W _ _ _ _ _ | change Exists _ )) | (refine isRL ?_; first | refine uMv ?_ | refine uAs ?_ | refine uO ?_ | (refine isBin ?_; first | refine uIb ?_ | refine uBb true ?_ ) | (refine isLd ?_; first | refine uL1 ?_ | refine uL2 ?_ ) | (refine isCl ?_; first | refine uP ?_ | refine uAk ?_ ) | (refine isFa ?_; first | refine uP ?_) | refine uX ?_ | refine uBs ?_ | refine uP ?_ ) | refine zad ?_ | refine wT fun _ => ?_ )
        exact ⟨(k + 1, l ++ [(k : Int)]), by show _ - (k + 1) < _; omega, ⟨by show k + 1 ≤ _; omega, by show (l ++ [(k : Int)]).length ≤ k + 1; rw [List.length_append, List.length_singleton]; omega, hyes (.inl hs1)⟩, (by simp only [← hap]; exact subA), subA⟩
      · by_cases hs2 : d.dst = x
        · repeat' (first | refine zac ?_ | refine zaa ?_ | ((first | refine zab ?_ | refine zaf ?_ ); (first | change W _ _ _ _ _ | change Exists _ )) | (refine isRL ?_; first | refine uMv ?_ | refine uAs ?_ | (refine isBin ?_; first | refine uIb ?_ | refine uBb true ?_ | refine uBb false ?_ ) | (refine isLd ?_; first | refine uL1 ?_ | refine uL2 ?_ ) | (refine isCl ?_; first | refine uP ?_ | refine uAk ?_ ) | (refine isFa ?_; first | refine uP ?_) | refine uX ?_ | refine uBs ?_ | refine uP ?_ ) | refine zad ?_ | refine wT fun _ => ?_ )
          exact ⟨(k + 1, l ++ [(k : Int)]), by show _ - (k + 1) < _; omega, ⟨by show k + 1 ≤ _; omega, by show (l ++ [(k : Int)]).length ≤ k + 1; rw [List.length_append, List.length_singleton]; omega, hyes (.inr hs2)⟩, (by simp only [← hap]; exact subA), subA⟩
        · repeat' (first | refine zac ?_ | refine zaa ?_ | ((first | refine zab ?_ | refine zaf ?_ ); (first | change W _ _ _ _ _ | change Exists _ )) | (refine isRL ?_; first | refine uMv ?_ | refine uAs ?_ | (refine isBin ?_; first | refine uIb ?_ | refine uBb true ?_ | refine uBb false ?_ ) | (refine isLd ?_; first | refine uL1 ?_ | refine uL2 ?_ ) | (refine isCl ?_; first | refine uP ?_ ) | (refine isFa ?_; first | refine uP ?_) | refine uX ?_ | refine uP ?_ ) | refine zad ?_ | refine wT fun _ => ?_ | refine wF fun _ => ?_ )
          exact ⟨(k + 1, l), by show _ - (k + 1) < _; omega, ⟨by show k + 1 ≤ _; omega, by show l.length ≤ k + 1; omega, hnear⟩, subA, subA⟩
    · obtain rfl : k = g.edges.length := by omega
      by_cases hl0 : l.length = 0
      · repeat' (first | refine zac ?_ | refine zaa ?_ | ((first | refine zab ?_ | refine zaD ?_ | refine zae ?_ ); (first | change W _ _ _ _ _ | change EndN _ _ _ _ _ _ )) | (refine isRL ?_; first | refine uMv ?_ | (refine isBin ?_; first | refine uBb true ?_ | refine uBb false ?_ ) | (refine isLd ?_; first | refine uL1 ?_ | refine uP ?_) | (refine isCl ?_; first | refine uP ?_ ) | (refine isFa ?_; first | refine uP ?_) | (refine isSt ?_; first | refine uSo ?_) ) | refine wT fun _ => ?_ | refine wF fun _ => ?_ )
        exact zdr (by rfl) (by rfl) ghasA ⟨(ns, es), rfl, rfl, hP, by show es.length ≤ 5; omega⟩
      have hc2 : 0 ≤ (IntKind.i64.wrap ((BitVec.ofInt IntKind.i64.bits st &&& BitVec.ofInt IntKind.i64.bits 255).toNat : Nat)) ∧ (IntKind.i64.wrap ((BitVec.ofInt IntKind.i64.bits st &&& BitVec.ofInt IntKind.i64.bits 255).toNat : Nat)) ≤ 255 := zhN st 255 (by decide)
      have hnl := zib (a := (IntKind.i64.wrap ((BitVec.ofInt IntKind.i64.bits st &&& BitVec.ofInt IntKind.i64.bits 255).toNat : Nat))) (b := ((l.map encI).length : Int)) hc2.1 (by omega)
      obtain ⟨e, he⟩ : ∃ e, l[(((IntKind.i64.wrap ((BitVec.ofInt IntKind.i64.bits st &&& BitVec.ofInt IntKind.i64.bits 255).toNat : Nat))).tmod ((l.map encI).length : Int)).toNat]? = some e := ⟨_, List.getElem?_eq_getElem (by omega)⟩
      obtain ⟨he0, d, hd, hsd⟩ := hnear e (List.mem_of_getElem? he)
      have hdE := hE d (List.mem_of_getElem? hd)
      have hlt2 := (List.getElem?_eq_some_iff.1 hd).1
      have hy : 0 ≤ d.src + d.dst - x ∧ d.src + d.dst - x < g.nodes.length := by
        rcases hsd with h | h
        · rw [h]; omega
        · rw [h]; omega
      have hxy : (d.src = x ∧ d.dst = d.src + d.dst - x) ∨ (d.src = d.src + d.dst - x ∧ d.dst = x) := by
        rcases hsd with h | h
        · exact .inl ⟨h, by omega⟩
        · exact .inr ⟨by omega, h⟩
      have hP2 := hP.step (y := d.src + d.dst - x) (by rw [hel]; exact hnx) hy he0 hd hxy
      have hn1 : ns.map encI ++ [encI (d.src + d.dst - x)] = (ns ++ [d.src + d.dst - x]).map encI := by rw [List.map_append]; rfl
      have he1 : es.map encI ++ [encI e] = (es ++ [e]).map encI := by rw [List.map_append]; rfl
      repeat' (first | refine zac ?_ | refine zaa ?_ | ((first | refine zab ?_ | refine zaf ?_ | refine zaD ?_ ); (first | change W _ _ _ _ _ | change Exists _ )) | (refine isRL ?_; first | refine uRem ?_ | refine uMv ?_ | refine uAs ?_ | (refine isBin ?_; first | refine uIb ?_ | refine uBb false ?_ | refine uP ?_) | (refine isLd ?_; first | refine uL1 ?_ | refine uL2 ?_ | refine uP ?_) | (refine isCl ?_; first | refine uP ?_ | refine uAk ?_ ) | (refine isFa ?_; first | refine uP ?_) | (refine isSt ?_; first | refine uSo ?_) | refine uX ?_ | refine uBs ?_ ) | refine wF fun _ => ?_ | refine uAny ?_ | (refine isD ?_; first | refine mMv ?_ | refine mAs ?_ | (refine imBin ?_; first | refine mIb ?_ ) | (refine imLd ?_; first | refine mL1 ?_ | refine mL2 ?_ ) | (refine imFa ?_; first | refine mP ?_) | refine mX ?_ ) )
      exact ⟨(i + 1, d.src + d.dst - x, ns ++ [d.src + d.dst - x], es ++ [e]), by show 5 - (i + 1) < _; omega, ⟨by show i + 1 ≤ 5; omega, by show i + 1 ≤ steps.length; omega, hy, hP2, by show (es ++ [e]).length = i + 1; rw [List.length_append, List.length_singleton, hel], by show (ns ++ [d.src + d.dst - x])[i + 1]? = _; rw [List.getElem?_append_right (by omega), show i + 1 - ns.length = 0 by omega]; rfl⟩, subA, (by simp only [← hn1, ← he1]; exact subA)⟩
  · have hor : ¬ i < steps.length ∨ (i < steps.length ∧ ¬ i < 5) := by omega
    rcases hor with h | ⟨h, h'⟩
    all_goals
      repeat' (first | refine zac ?_ | refine zaa ?_ | ((first | refine zab ?_ | refine zaD ?_ | refine zae ?_ ); (first | change W _ _ _ _ _ | change EndN _ _ _ _ _ _ )) | (refine isRL ?_; first | refine uMv ?_ | refine uO ?_ | (refine isBin ?_; first | refine uBb true ?_ | refine uBb false ?_ ) | (refine isLd ?_; first | refine uP ?_) | (refine isCl ?_; first | refine uP ?_ ) | (refine isSt ?_; first | refine uSo ?_) | refine uP ?_ ) | refine wF fun _ => ?_ )
      exact zdr (by rfl) (by rfl) ghasA ⟨(ns, es), rfl, rfl, hP, by show es.length ≤ 5; omega⟩
end Go.Proofs.YtjhkehloipmjfaaGreat
