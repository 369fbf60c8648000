/- Walks: what fits, by the reference: a table, of which the shape is known. -/
import Derived.Test.YtjhkehloipmjfaaGreatRP
import Derived.Test.YtjhkehloipmjfaaGreatQM
import Derived.Test.YtjhkehloipmjfaaGreatQI
import Derived.Test.YtjhkehloipmjfaaGreatMK
import Derived.Test.YtjhkehloipmjfaaGreatGS
import Derived.Test.YtjhkehloipmjfaaGreatQW
set_option maxRecDepth 100000
set_option maxHeartbeats 16000000
namespace Go.Proofs.YtjhkehloipmjfaaGreat
open Go.RowKit
theorem zkt (e : E) : CallsN Tryz.prog 64 [.dat (encE e)] [] OneB := by
  have hlm : (e.kids.map encE).length = e.kids.length := List.length_map _
  obtain ⟨z, hz⟩ : ∃ z, zeroV ⟨e.val.kind, e.val.n, e.val.f, e.val.s⟩ = z := ⟨_, rfl⟩
  cases z
  all_goals
    (refine zam (Ty := Ty) zag Tryz.func64 rfl rfl rfl (by rfl) fun w0 S0 hp => ?_; simp only [argsF, List.zipIdx_cons, List.zipIdx_nil, List.map_cons, List.map_nil, Nat.zero_add])
    repeat' (first | refine zac ?_ | refine zaa ?_ | ((first | refine zab ?_ | refine zae ?_); (first | change W _ _ _ _ _ | change EndN _ _ _ _ _ _ )) | (refine isRL ?_; first | refine uMv ?_ | refine uAs ?_ | refine uO ?_ | (refine isBin ?_; first | refine uP ?_ | refine uEq true ?_ | refine uEq false ?_) | (refine isLd ?_; first | refine uL1 ?_ ) | (refine isCl ?_; first | refine uP ?_) | (refine isFa ?_; first | refine uP ?_) | (refine isBd ?_; first | refine uBd ?_ ) | refine uP ?_ | refine uBx ?_ | ((first | refine uGsD ?_ ?_ | refine uGs ?_ ?_) <;> intro hb)))
    all_goals exact zaw (by rfl) rfl ghasA ⟨_, rfl, rfl, trivial⟩
abbrev BoolI : VV → Obs → Prop := fun y σ1 => ∃ i : Bool × Int, y = .tup [vB i.1, vI i.2] ∧ σ1 = [] ∧ True
theorem zjV (p : Pt) (l : List ByteArray) (ps : List Pr) : CallsN Tryz.prog 32 [.dat (encP p), vL (l.map encS), vL (ps.map encPr)] [] BoolI := by
  have h1 := zkt p.label
  have h2 := zk3 l p.label
  have h3 := ziY p.wher ps
  (refine zam (Ty := Ty) zag Tryz.func32 rfl rfl rfl (by rfl) fun w0 S0 hp => ?_; simp only [argsF, List.zipIdx_cons, List.zipIdx_nil, List.map_cons, List.map_nil, Nat.zero_add])
  repeat' (first | refine zac ?_ | refine zaa ?_ | ((first | refine zab ?_ | refine zaf ?_ | refine zae ?_); (first | change W _ _ _ _ _ | change EndN _ _ _ _ _ _ | change Exists _ )) | (refine isRL ?_; first | refine uNx h1 (fun i _ => ?_) | refine uNx h2 (fun i _ => ?_) | refine uNx h3 (fun i _ => ?_) | refine uMv ?_ | refine uAs ?_ | (refine isLd ?_; first | refine uL1 ?_ ) | (refine isFa ?_; first | refine uP ?_) | refine uP ?_ | refine uBx ?_ ) | ((first | refine wCsNB ?_ ?_ ) <;> intro hb))
  all_goals exact zaw (by rfl) rfl ghasA ⟨(_, _), rfl, rfl, trivial⟩
def rowN (g : Gr) (p : Pt) : Nat := if p.kind = 2 then g.edges.length else g.nodes.length
structure TableOk (g : Gr) (l : List Pt) (fit : List (List Bool)) : Prop where
  len : fit.length = l.length
  row : ∀ (j : Nat) (q : Pt) (r : List Bool), l[j]? = some q → fit[j]? = some r → r.length = rowN g q
abbrev TabR (g : Gr) (l : List Pt) : VV → Obs → Prop := fun y σ1 => ∃ i : List (List Bool) × Int, y = .tup [vL (i.1.map encR), vI i.2] ∧ σ1 = [] ∧ (i.2 = 0 → TableOk g l i.1)
theorem zgq (l : List Bool) : sized 1 (l.map encB) = true := by unfold sized; rw [List.all_map]; exact List.all_eq_true.2 fun _ _ => rfl
theorem zhc (l : List (List Bool)) : sized 1 (l.map encR) = true := by unfold sized; rw [List.all_map]; exact List.all_eq_true.2 fun _ _ => rfl
theorem zjC (g : Gr) (p : Pt) (hn : g.nodes.length ≤ 1000) (he : g.edges.length ≤ 1000) (hel : (elems p).length ≤ 1000000) : CallsN Tryz.prog 10 [.dat (encG g), .dat (encP p)] [] (TabR g (elems p)) := by
  have hE := zkn p hel
  have hln : (g.nodes.map encNd).length = g.nodes.length := List.length_map _
  have hle : (g.edges.map encEd).length = g.edges.length := List.length_map _
  have hll : ((elems p).map encP).length = (elems p).length := List.length_map _
  unfold encG
  (refine zam (Ty := Ty) zag Tryz.func10 rfl rfl rfl (by rfl) fun w0 S0 hp => ?_; simp only [argsF, List.zipIdx_cons, List.zipIdx_nil, List.map_cons, List.map_nil, Nat.zero_add])
  repeat' (first | refine zac ?_ | refine zaa ?_ | ((first | refine zab ?_ ); (first | change W _ _ _ _ _ )) | (refine isRL ?_; first | refine uAs ?_ | (refine isLd ?_; first | refine uLb ?_ ) | (refine isCl ?_; first | refine uC (hE) ?_ ) | refine uBx ?_ ) | refine zad ?_ )
  refine uNil 9 300 35 1 ?_
  refine zaL (α := Nat × Bool × Bool × List (List Bool)) (fun x => [(2, .one (.po 2 0)), (6, vL ((elems p).map encP)), (7, vB x.2.1), (8, vB x.2.2.1), (9, .one (.own 300 (x.2.2.2.map encR))), (10, vI x.1)]) (fun _ => [(2, .box 25 [.sl (g.nodes.map encNd), .sl (g.edges.map encEd)]), (300, .tok 35 1)]) (fun x => x.1 ≤ (elems p).length ∧ x.2.2.2.length = x.1 ∧ ∀ (j : Nat) (q : Pt) (r : List Bool), (elems p)[j]? = some q → x.2.2.2[j]? = some r → r.length = rowN g q) (fun x => (elems p).length - x.1) (0, false, false, []) ⟨Nat.zero_le _, rfl, fun j q r _ hr => by simp at hr⟩ subA subA ?_
  rintro ⟨i, ov, wr, fit⟩ ⟨hi, hfl, hsh⟩
  dsimp only at hi hfl hsh ⊢
  by_cases hlt : i < (elems p).length
  rotate_left
  · have hil : i = (elems p).length := by omega
    have hTok : TableOk g (elems p) fit := ⟨by omega, hsh⟩
    cases wr <;> cases ov
    · repeat' (first | refine zac ?_ | refine zaa ?_ | ((first | refine zab ?_ | refine zaf ?_ | refine zaD ?_ | refine zae ?_); (first | change W _ _ _ _ _ | change EndN _ _ _ _ _ _ )) | (refine isRL ?_; first | refine uMv ?_ | refine uAs ?_ | (refine isBin ?_; first | refine uBb false ?_ ) | (refine isCl ?_; first | refine uP ?_ ) ) | refine wF fun _ => ?_ )
      exact zdr (by rfl) (by rfl) ghasA ⟨(fit, 0), rfl, rfl, fun _ => hTok⟩
    · repeat' (first | refine zac ?_ | refine zaa ?_ | ((first | refine zab ?_ | refine zaf ?_ | refine zaD ?_ | refine zae ?_); (first | change W _ _ _ _ _ | change Exists _ )) | (refine isRL ?_; first | refine uMv ?_ | refine uAs ?_ | (refine isBin ?_; first | refine uBb false ?_ ) | (refine isCl ?_; first | refine uP ?_ ) ) | refine wT fun _ => ?_ | refine wF fun _ => ?_ )
      exact zdr (by rfl) (by rfl) ghasA ⟨([], 7), rfl, rfl, fun h => absurd h (by decide)⟩
    · repeat' (first | refine zac ?_ | refine zaa ?_ | ((first | refine zab ?_ | refine zaD ?_ | refine zae ?_); (first | change W _ _ _ _ _ | change Exists _ )) | (refine isRL ?_; first | refine uMv ?_ | refine uAs ?_ | (refine isBin ?_; first | refine uBb false ?_ ) | (refine isCl ?_; first | refine uP ?_ ) ) | refine wT fun _ => ?_ | refine wF fun _ => ?_ )
      exact zdr (by rfl) (by rfl) ghasA ⟨([], 4), rfl, rfl, fun h => absurd h (by decide)⟩
    · repeat' (first | refine zac ?_ | refine zaa ?_ | ((first | refine zab ?_ | refine zaD ?_ | refine zae ?_); (first | change W _ _ _ _ _ | change Exists _ )) | (refine isRL ?_; first | refine uMv ?_ | refine uAs ?_ | (refine isBin ?_; first | refine uBb false ?_ ) | (refine isCl ?_; first | refine uP ?_ ) ) | refine wT fun _ => ?_ | refine wF fun _ => ?_ )
      exact zdr (by rfl) (by rfl) ghasA ⟨([], 4), rfl, rfl, fun h => absurd h (by decide)⟩
  · obtain ⟨q, hq⟩ : ∃ q, (elems p)[i]? = some q := ⟨_, List.getElem?_eq_getElem hlt⟩
    have hF := zjV q
    by_cases k2 : q.kind = 2
    · have hrn : rowN g q = g.edges.length := if_pos k2
      repeat' (first | refine zac ?_ | refine zaa ?_ | ((first | refine zab ?_ | refine zaf ?_ ); (first | change W _ _ _ _ _ )) | (refine isRL ?_; first | refine uMv ?_ | refine uAs ?_ | (refine isBin ?_; first | refine uBb true ?_ ) | (refine isLd ?_; first | refine uL1 ?_ | refine uL2 ?_ ) | (refine isCl ?_; first | refine uP ?_ ) | (refine isFa ?_; first | refine uP ?_) | refine uX ?_ | refine uBs ?_ ) | refine zad ?_ | refine wT fun _ => ?_ )
      refine zaL (α := Nat × Bool × Bool × List Bool) (fun x => [(2, .one (.po 2 0)), (6, vL ((elems p).map encP)), (7, vB x.2.1), (8, vB x.2.2.1), (9, .one (.own 300 (fit.map encR))), (10, vI i), (11, .one (.own 26 (x.2.2.2.map encB))), (12, vI ((g.edges.map encEd).length : Int)), (13, vI x.1)]) (fun _ => [(2, .box 25 [.sl (g.nodes.map encNd), .sl (g.edges.map encEd)]), (300, .tok 35 1), (26, .tok 4 1)]) (fun x => x.1 ≤ g.edges.length ∧ x.2.2.2.length = x.1) (fun x => g.edges.length - x.1) (0, ov, wr, []) ⟨Nat.zero_le _, rfl⟩ subA subA ?_
      rintro ⟨k, ov', wr', row⟩ ⟨hk, hrl⟩
      dsimp only at hk hrl ⊢
      have hzr := zgq row
      have hrlm : (row.map encB).length = row.length := List.length_map _
      by_cases hkt : k < g.edges.length
      · obtain ⟨x, hx⟩ : ∃ x, g.edges[k]? = some x := ⟨_, List.getElem?_eq_getElem hkt⟩
        have hap : ∀ b : Bool, row.map encB ++ [encB b] = (row ++ [b]).map encB := fun b => by rw [List.map_append]; rfl
        repeat' (first | refine zac ?_ | refine zaa ?_ | ((first | refine zab ?_ | refine zaf ?_ ); (first | change W _ _ _ _ _ | change Exists _ )) | (refine isRL ?_; first | refine uNx (hF _ _) (fun r _ => ?_) | refine uAk ?_ (hr' := hap _) | refine uMv ?_ | refine uAs ?_ | refine uO ?_ | (refine isBin ?_; first | refine uIb ?_ | refine uBb true ?_ | refine uP ?_ ) | (refine isLd ?_; first | refine uLp ?_ | refine uL1 ?_ | refine uL2 ?_ ) | (refine isFa ?_; first | refine uP ?_) | refine uX ?_ | refine uBs ?_ | refine uP ?_ | ((first | refine uGsN ?_ ?_ | refine uGs ?_ ?_) <;> intro hb)) | refine zad ?_ | refine wT fun _ => ?_ )
        all_goals exact ⟨(k + 1, _, _, row ++ [r.1]), by dsimp only; omega, ⟨by dsimp only; omega, by dsimp only; rw [List.length_append, hrl]; rfl⟩, subA, subA⟩
      · have hnx : fit.map encR ++ [encR row] = (fit ++ [row]).map encR := by rw [List.map_append]; rfl
        have hzf := zhc fit
        have hflm : (fit.map encR).length = fit.length := List.length_map _
        repeat' (first | refine zac ?_ | refine zaa ?_ | ((first | refine zab ?_ | refine zaD ?_ ); (first | change W _ _ _ _ _ | change Exists _ )) | (refine isRL ?_; first | refine uAk ?_ (hr' := hnx) | refine uMv ?_ | refine uAs ?_ | (refine isBin ?_; first | refine uIb ?_ | refine uBb false ?_ ) | refine uBs ?_ ) | refine wF fun _ => ?_ )
        exact ⟨(i + 1, ov', wr', fit ++ [row]), by dsimp only; omega, ⟨by dsimp only; omega, by dsimp only; rw [List.length_append, hfl]; rfl, fun j q' r hq' hr => by
          dsimp only at hr
          by_cases hj : j < fit.length
          · rw [List.getElem?_append_left hj] at hr; exact hsh j q' r hq' hr
          · have hjl := (List.getElem?_eq_some_iff.1 hr).1
            rw [List.length_append, List.length_singleton] at hjl
            obtain rfl : j = fit.length := by omega
            rw [List.getElem?_append_right (Nat.le_refl _), Nat.sub_self] at hr
            injection hr with hr
            rw [hfl, hq] at hq'
            injection hq' with hq'
            rw [← hr, ← hq', hrn]; omega⟩, subA, subA⟩
    · have hrn : rowN g q = g.nodes.length := if_neg k2
      repeat' (first | refine zac ?_ | refine zaa ?_ | ((first | refine zab ?_ | refine zaf ?_ ); (first | change W _ _ _ _ _ )) | (refine isRL ?_; first | refine uMv ?_ | refine uAs ?_ | (refine isBin ?_; first | refine uBb true ?_ | refine uBb false ?_ ) | (refine isLd ?_; first | refine uL1 ?_ | refine uL2 ?_ ) | (refine isCl ?_; first | refine uP ?_ ) | (refine isFa ?_; first | refine uP ?_) | refine uX ?_ | refine uBs ?_ ) | refine zad ?_ | refine wT fun _ => ?_ | refine wF fun _ => ?_ )
      refine zaL (α := Nat × Bool × Bool × List Bool) (fun x => [(2, .one (.po 2 0)), (6, vL ((elems p).map encP)), (7, vB x.2.1), (8, vB x.2.2.1), (9, .one (.own 300 (fit.map encR))), (10, vI i), (11, .one (.own 26 (x.2.2.2.map encB))), (12, vI ((g.nodes.map encNd).length : Int)), (13, vI x.1)]) (fun _ => [(2, .box 25 [.sl (g.nodes.map encNd), .sl (g.edges.map encEd)]), (300, .tok 35 1), (26, .tok 4 1)]) (fun x => x.1 ≤ g.nodes.length ∧ x.2.2.2.length = x.1) (fun x => g.nodes.length - x.1) (0, ov, wr, []) ⟨Nat.zero_le _, rfl⟩ subA subA ?_
      rintro ⟨k, ov', wr', row⟩ ⟨hk, hrl⟩
      dsimp only at hk hrl ⊢
      have hzr := zgq row
      have hrlm : (row.map encB).length = row.length := List.length_map _
      by_cases hkt : k < g.nodes.length
      · obtain ⟨x, hx⟩ : ∃ x, g.nodes[k]? = some x := ⟨_, List.getElem?_eq_getElem hkt⟩
        have hap : ∀ b : Bool, row.map encB ++ [encB b] = (row ++ [b]).map encB := fun b => by rw [List.map_append]; rfl
        repeat' (first | refine zac ?_ | refine zaa ?_ | ((first | refine zab ?_ | refine zaf ?_ ); (first | change W _ _ _ _ _ | change Exists _ )) | (refine isRL ?_; first | refine uNx (hF _ _) (fun r _ => ?_) | refine uAk ?_ (hr' := hap _) | refine uMv ?_ | refine uAs ?_ | refine uO ?_ | (refine isBin ?_; first | refine uIb ?_ | refine uBb true ?_ | refine uBb false ?_ | refine uP ?_ ) | (refine isLd ?_; first | refine uLp ?_ | refine uL1 ?_ | refine uL2 ?_ ) | (refine isFa ?_; first | refine uP ?_) | refine uX ?_ | refine uBs ?_ | refine uP ?_ | ((first | refine uGsN ?_ ?_ | refine uGs ?_ ?_) <;> intro hb)) | refine zad ?_ | refine wT fun _ => ?_ | refine wF fun _ => ?_ )
        all_goals exact ⟨(k + 1, _, _, row ++ [r.1]), by dsimp only; omega, ⟨by dsimp only; omega, by dsimp only; rw [List.length_append, hrl]; rfl⟩, subA, subA⟩
      · have hnx : fit.map encR ++ [encR row] = (fit ++ [row]).map encR := by rw [List.map_append]; rfl
        have hzf := zhc fit
        have hflm : (fit.map encR).length = fit.length := List.length_map _
        repeat' (first | refine zac ?_ | refine zaa ?_ | ((first | refine zab ?_ | refine zaD ?_ ); (first | change W _ _ _ _ _ | change Exists _ )) | (refine isRL ?_; first | refine uAk ?_ (hr' := hnx) | refine uMv ?_ | refine uAs ?_ | (refine isBin ?_; first | refine uIb ?_ | refine uBb false ?_ ) | refine uBs ?_ ) | refine wF fun _ => ?_ )
        exact ⟨(i + 1, ov', wr', fit ++ [row]), by dsimp only; omega, ⟨by dsimp only; omega, by dsimp only; rw [List.length_append, hfl]; rfl, fun j q' r hq' hr => by
          dsimp only at hr
          by_cases hj : j < fit.length
          · rw [List.getElem?_append_left hj] at hr; exact hsh j q' r hq' hr
          · have hjl := (List.getElem?_eq_some_iff.1 hr).1
            rw [List.length_append, List.length_singleton] at hjl
            obtain rfl : j = fit.length := by omega
            rw [List.getElem?_append_right (Nat.le_refl _), Nat.sub_self] at hr
            injection hr with hr
            rw [hfl, hq] at hq'
            injection hq' with hq'
            rw [← hr, ← hq', hrn]; omega⟩, subA, subA⟩
end Go.Proofs.YtjhkehloipmjfaaGreat
namespace Go.Proofs.YtjhkehloipmjfaaGreat
open Go.RowKit
section
variable {w0 : W0} {S0 : Nat → Nat → Prop} {nt : Nat} {fr : Fr} {σ : Obs} {o : Oper} {ops : Array Oper} {rest : List Oper} {d : Nat} {Q : Fr → Obs → Prop} {xs : Array Operand} {ats : Array TypeId} {z z' : Int}
end
theorem zht {p : Pt} (h : shapeP p = true) : (buildM p).elems = elems p := by
  have := (zfc p 0 1 ⟨[], [], 2⟩ h).el
  exact this
end Go.Proofs.YtjhkehloipmjfaaGreat
namespace Go.Proofs.YtjhkehloipmjfaaGreat
open Go.RowKit Go.ChangeShapes Go.WideShapes Go.Deep
theorem zj8 {n : Nat} {ds : List D} (h : Sh Tryz.prog n 58 ds) : ∃ l : List Int, ds = [.sl (l.map encI)] := by
  obtain ⟨m, rows, rfl, rfl, _, hr⟩ := zb8 Tryz.underlying58 h
  obtain ⟨l, rfl⟩ := zbQ encI (fun q => Sh Tryz.prog m 3 q) (fun q hq => let ⟨m, _, e⟩ := zb3 Tryz.underlying3 hq; ⟨m, e⟩) rows hr
  exact ⟨l, rfl⟩
def intsL : List TypeId := [3, 58]
theorem zh5 : intsL.all (simpleT Tryz.prog intsL) = true := by kernel_rfl
section
variable {H : Type} {enc : TypeId × Value → H} {w : World} {base b0 : Nat} {spare : Nat → Bool} {held : Bool} {r : Reach} {ts : List TypeId} {ds : List (DataW H)}
theorem ziM {j : Nat} {v : Value} {d : DataW H} {p : List MemPlace} (hsz : (DataW.weightsEach Tryz.prog ts ds).all (· ≤ reachBytes) = true) (ht : ts[j]? = some 58) (hd : ds[j]? = some d)
    (hv : Value.okWide Tryz.prog w r b0 58 v) (h : DataW.Trod enc Tryz.prog w base spare held 58 v d p) : ∃ l : List Int, PV (SW_ w) w (vL (l.map encI)) v ∧ bulkR [.sl (l.map encI)] ≤ Rows.uptoBulk d := by
  obtain ⟨a, n, c, e⟩ := okWide_slice Tryz.underlying58 hv
  obtain ⟨n, hf⟩ := h
  obtain ⟨x, h1, h2⟩ := zeT intsL zh5 n _ _ _ rfl hf (List.all_eq_true.2 fun y hy => List.all_eq_true.1 hsz y (DataW.weights_mem_each ht hd y hy))
  have h3 := ze1 intsL zh5 n _ _ _ x rfl hf h1 h2
  obtain ⟨y, rfl⟩ := zj8 h2
  exact ⟨y, zmp e h1, h3⟩
end
end Go.Proofs.YtjhkehloipmjfaaGreat
namespace Go.Proofs.YtjhkehloipmjfaaGreat
open Go.RowKit
theorem zjo {m : Mach} {fit : List (List Bool)} {x : Int} {v : Mv} (h : staysB m fit x v = true) : mayB m.elems v = true := by
  unfold staysB at h; unfold mayB
  rw [Bool.or_eq_true] at h ⊢
  refine h.imp id fun h => ?_
  cases hq : m.elems[v.elem.toNat]? with
  | none => rw [hq] at h; cases h
  | some p => rw [hq] at h; dsimp only at h ⊢; rw [Bool.and_eq_true] at h; exact h.1
theorem zli {p : Pt} {n : Nat} {fit : List (List Bool)} {g : Gr} {ns es : List Int} (hr : rightP p = true) (he : endsP p = true) (hok : RunOk (buildM (normal p)) n g fit ns es) : ∃ rk, (rnOf (buildM (normal p)) fit g ns es).Ok rk n := by
  obtain ⟨gr, hg⟩ := ziu (zd2 p hr) (zhH p hr he)
  refine ⟨rkN gr n, fun v hv => ?_, fun x h0 h1 => zms h0 h1, fun i v hv hs => ?_⟩
  · exact hok.mach.inr v hv
  · obtain ⟨_, _, b3, b4⟩ := hok.mach.inr v hv
    exact zkC b3 b4 (hg v hv (zjo hs))
theorem zk7 {q : Qy} (h : checkQ q = 0) : endsP q.pat = true := by
  unfold checkQ at h
  split at h
  · cases h
  split at h
  · cases h
  split at h
  · cases h
  unfold tailQ at h
  split at h
  · cases h
  split at h
  · cases h
  rename_i h1
  simpa using h1
theorem zlm (g : Gr) (p : Pt) (src : Int) (steps : List Int) (hN : ∀ n ∈ g.nodes, n.props.length ≤ 1048576) (hE : ∀ n ∈ g.edges, n.props.length ≤ 1048576) (hvb : (varsP p).length ≤ 1000000) :
    CallsV Tryz.prog 4 [.dat (encG g), .dat (encP p), vI src, vL (steps.map encI)] (.val (vB true)) := by
  have hS := zjr
  have hln : (g.nodes.map encNd).length = g.nodes.length := List.length_map _
  have hle : (g.edges.map encEd).length = g.edges.length := List.length_map _
  by_cases hsm : SmallP g p
  rotate_left
  · have hM := zjY hN hE hvb hsm
    unfold encG at hM ⊢
    (refine zaj (Ty := Ty) zag Tryz.func4 rfl rfl rfl fun w0 S0 => ?_; simp only [argsF, List.zipIdx_cons, List.zipIdx_nil, List.map_cons, List.map_nil, Nat.zero_add])
    repeat' (first | refine zac ?_ | refine zaa ?_ | ((first | refine zab ?_ | refine zae ?_ ); (first | change W _ _ _ _ _ | skip)) | (refine isRL ?_; first | refine uMv ?_ | refine uAs ?_ | (refine isLd ?_; first | refine uLb ?_ ) | (refine isCl ?_; first | refine uC (hS) ?_ | refine uC (hM) ?_ ) | refine uBu true ?_ | refine uBx ?_ ) | refine wT fun _ => ?_ )
    exact zah (by rfl) rfl
  have hM := zi6 hN hE hvb hsm
  obtain ⟨hr, hs⟩ := ze2 hsm.check
  have hen := zk7 hsm.check
  dsimp only at hr hs hen
  have hNo := zhp p hr (by omega)
  have hsh := zd2 p hr
  have hnn := zc4 p hr
  have hB := (zhT (normal p) hsh (by omega)).toV
  have hR := (zko (normal p) hsh (by omega)).toV
  have hok := machOk hsh (by omega)
  have hels := zht hsh
  have hem : (buildM (normal p)).elems.length ≤ 20000 := by
    obtain ⟨⟨a1, _, _, _⟩, _⟩ := zcg (normal p) 0 1 ⟨[], [], 2⟩ hsh
    have e : layM (normal p) 0 1 ⟨[], [], 2⟩ = buildM (normal p) := rfl
    rw [e] at a1
    simp only [List.length_nil] at a1
    omega
  have hT := zjC g (normal p) (by have := hsm.n8; omega) (by have := hsm.e10; omega) (by rw [← hels]; omega)
  have hP := zkU g src steps hsm.right hsm.n0 hsm.n8 hsm.e10
  have h2n : 2 ≤ (buildM (normal p)).states.toNat := by
    have : (buildM (normal p)).states = 2 + stP (normal p) := (zfc (normal p) 0 1 ⟨[], [], 2⟩ hsh).st
    omega
  have hRO := fun (fit : List (List Bool)) (ns es : List Int) (h : RunOk (buildM (normal p)) (buildM (normal p)).states.toNat g fit ns es) => zli hr hen h
  rw [← hels] at hT
  generalize hG : buildM (normal p) = m at hB hR hok hem hT h2n hRO
  generalize hn : m.states.toNat = n at hok h2n hRO
  have hst := hok.st
  unfold encG at hM hT hP ⊢
  (refine zaj (Ty := Ty) zag Tryz.func4 rfl rfl rfl fun w0 S0 => ?_; simp only [argsF, List.zipIdx_cons, List.zipIdx_nil, List.map_cons, List.map_nil, Nat.zero_add])
  repeat' (first | refine zac ?_ | refine zaa ?_ | ((first | refine zab ?_ | refine zaf ?_ | refine zae ?_ ); (first | change W _ _ _ _ _ | skip)) | (refine isRL ?_; first | refine uNx hT (fun i hi => ?_) | refine uNx hP (fun j hj => ?_) | refine uMv ?_ | refine uAs ?_ | (refine isBin ?_; first | refine uP ?_ ) | (refine isLd ?_; first | refine uLb ?_ ) | (refine isCl ?_; first | refine uC (hS) ?_ | refine uC (hM) ?_ | refine uC (hNo) ?_ ) | (refine isSt ?_; first | refine uSw ?_ ) | refine uBu false ?_ | refine uP ?_ | refine uBx ?_ | refine uN ?_ ) | refine wF fun _ => ?_ | refine uAny ?_ | (refine isD ?_; first | refine mMv ?_ | (refine imLd ?_; first | refine mLb ?_ ) ) | ((first | refine wCsN ?_ ?_ ) <;> intro hb))
  · exact zah (by rfl) rfl
  have hTok := hi (by first | exact hb )
  obtain ⟨ns, es⟩ := j
  obtain ⟨hpath, hfive⟩ := hj
  dsimp only at hpath hfive ⊢
  have hrun : RunOk m n g i.1 ns es := ⟨hok, hpath, by omega, fun x hx => ⟨by rw [hTok.len]; omega, fun k p' r hp hk hr => by
    have := hTok.row k p' r hp hr
    unfold rowN at this
    rw [if_neg (by omega)] at this
    have := hpath.nodes x hx
    omega, (hpath.nodes x hx).1⟩, fun x hx => ⟨by rw [hTok.len]; omega, fun k p' r hp hk hr => by
    have := hTok.row k p' r hp hr
    unfold rowN at this
    rw [if_pos hk] at this
    have := hpath.edges x hx
    omega, (hpath.edges x hx).1⟩⟩
  obtain ⟨rk, hrk⟩ := hRO i.1 ns es hrun
  have hV1 := zmx hrun h2n hrk
  have hV2 : CallsV Tryz.prog 20 [.dat (encA m), .dat (encG g), vL (i.1.map encR), .dat [.sl (ns.map encI), .sl (es.map encI)]] (.val (vI (((rnOf m i.1 g ns es).runs n 0 0 : Nat) : Int))) := (zlq hrun h2n hrk).toV rfl fun y σ1 ⟨_, h, _⟩ => h
  generalize (((rnOf m i.1 g ns es).runs n 0 0 : Nat) : Int) = runs at hV1 hV2
  have hrr : (runs == runs) = true := beq_self_eq_true _
  unfold encG at hV1 hV2
  repeat' (first | ((first | refine zae ?_ ); (first | change EndQ _ _ _ _ _ _ )) | (refine isD ?_; first | refine mMv ?_ | refine mAs ?_ | (refine imBin ?_; first | refine mBb true ?_ ) | (refine imLd ?_; first | refine mLb ?_ ) | (refine imCl ?_; first | refine mC (hB) ?_ | refine mC (hR) ?_ | refine mC (hV1) ?_ | refine mC (hV2) ?_ ) | refine mP ?_ ) )
  exact zah (by rfl) rfl
theorem zho (g : Gr) (hg : bulkR (encG g) ≤ 1048576) (p : Pt) (hp : bulkR (encP p) ≤ 1048576) (src : Int) (steps : List Int) (_hs : bulkR [.sl (steps.map encI)] ≤ 1048576) :
    CallsV Tryz.prog 4 [.dat (encG g), .dat (encP p), vI src, vL (steps.map encI)] (.val (vB true)) :=
  zlm g p src steps (zfQ hg).1 (zfQ hg).2 (by have := (zkq hp).1; omega)
end Go.Proofs.YtjhkehloipmjfaaGreat
