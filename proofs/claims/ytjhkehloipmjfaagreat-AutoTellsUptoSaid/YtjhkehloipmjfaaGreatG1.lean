/- Plain data of the program's types: expressions, texts, patterns. -/
import Derived.Test.YtjhkehloipmjfaaGreatWO
import Derived.Test.YtjhkehloipmjfaaGreatWE
import Derived.Test.YtjhkehloipmjfaaGreatWI
import Derived.Test.YtjhkehloipmjfaaGreatWT
set_option maxRecDepth 100000
set_option maxHeartbeats 4000000
namespace Go.Proofs.YtjhkehloipmjfaaGreat
open Go.RowKit Go.ChangeShapes Go.WideShapes Go.Deep
theorem zbQ {α : Type} (f : α → List D) (p : List D → Prop) (h : ∀ q, p q → ∃ x, q = f x) : ∀ rows : List (List D), (∀ q ∈ rows, p q) → ∃ l : List α, rows = l.map f
  | [], _ => ⟨[], rfl⟩
  | q :: rows, hr => by
    obtain ⟨x, rfl⟩ := h q (hr q List.mem_cons_self)
    obtain ⟨l, rfl⟩ := zbQ f p h rows fun q hq => hr q (List.mem_cons_of_mem _ hq)
    exact ⟨x :: l, rfl⟩
theorem zcV {P : Program} {n : Nat} {t : TypeId} {ds : List D} (h : Sh P n t ds) : ∃ m, n = m + 1 := by
  cases n with
  | zero => exact h.elim
  | succ m => exact ⟨m, rfl⟩
section
variable {P : Program} {n : Nat} {t : TypeId} {ds : List D}
theorem zb3 {k : IntKind} (hu : P.underlying t = some (.int k)) (h : Sh P n t ds) : ∃ m, (Lit.int k m).wf = true ∧ ds = [.v (.int k m)] := by
  obtain ⟨m, rfl⟩ := zcV h; unfold Sh at h; rw [hu] at h; exact h
theorem zlf (hu : P.underlying t = some .bool) (h : Sh P n t ds) : ∃ b, ds = [.v (.bool b)] := by
  obtain ⟨m, rfl⟩ := zcV h; unfold Sh at h; rw [hu] at h; exact h
theorem zcI (hu : P.underlying t = some .string) (h : Sh P n t ds) : ∃ s : ByteArray, s.size ≤ 140737488351232 ∧ ds = [.v (.string s)] := by
  obtain ⟨m, rfl⟩ := zcV h; unfold Sh at h; rw [hu] at h; exact h
theorem zj7 {k : FloatKind} (hu : P.underlying t = some (.float k)) (h : Sh P n t ds) : ∃ m, ds = [.v (.float k m)] := by
  obtain ⟨m, rfl⟩ := zcV h; unfold Sh at h; rw [hu] at h; exact h
theorem zb8 {e : TypeId} (hu : P.underlying t = some (.slice e)) (h : Sh P n t ds) : ∃ m rows, n = m + 1 ∧ ds = [.sl rows] ∧ rows.length * P.bytesOf e ≤ 140737488351232 ∧ ∀ q ∈ rows, Sh P m e q := by
  obtain ⟨m, rfl⟩ := zcV h; unfold Sh at h; rw [hu] at h
  obtain ⟨rows, h1, h2, h3⟩ := h
  exact ⟨m, rows, rfl, h1, h2, fun q hq => (h3 q hq).1⟩
theorem zbM {fs : Array Field} (hu : P.underlying t = some (.struct fs)) (h : Sh P n t ds) : ∃ m, n = m + 1 ∧ ds.length = P.cellsOf t ∧ ∀ (i : Nat) (f : Field), fs[i]? = some f → Sh P m f.type ((ds.drop f.offset).take (P.cellsOf f.type)) := by
  obtain ⟨m, rfl⟩ := zcV h; unfold Sh at h; rw [hu] at h
  exact ⟨m, rfl, h.1, h.2⟩
end
theorem zgu {n : Nat} {ds : List D} (h : Sh Tryz.prog n 76 ds) : ∃ l : List ByteArray, ds = [.sl (l.map encS)] ∧ l.length * 16 ≤ 140737488351232 ∧ ∀ s ∈ l, s.size ≤ 140737488351232 := by
  obtain ⟨m, rows, rfl, rfl, hb, hr⟩ := zb8 Tryz.underlying76 h
  obtain ⟨l, rfl⟩ := zbQ encS (fun q => Sh Tryz.prog m 9 q) (fun q hq => by
    obtain ⟨s, _, rfl⟩ := zcI Tryz.underlying9 hq; exact ⟨s, rfl⟩) rows hr
  have kb : Tryz.prog.bytesOf 9 = 16 := by kernel_rfl
  rw [kb, List.length_map] at hb
  refine ⟨l, rfl, hb, fun s hs => ?_⟩
  obtain ⟨s', h1, h2⟩ := zcI Tryz.underlying9 (hr (encS s) (List.mem_map_of_mem hs))
  simp only [encS, List.cons.injEq, D.v.injEq, Value.string.injEq, and_true] at h2
  rw [h2]; exact h1
theorem zfX {n : Nat} {ds : List D} (h : Sh Tryz.prog n 28 ds) : ∃ v : Val, ds = encV v := by
  obtain ⟨m, rfl, hl, hf⟩ := zbM Tryz.underlying28 h
  have k1 : Tryz.prog.cellsOf 3 = 1 := by kernel_rfl
  have k2 : Tryz.prog.cellsOf 2 = 1 := by kernel_rfl
  have k3 : Tryz.prog.cellsOf 9 = 1 := by kernel_rfl
  have k4 : Tryz.prog.cellsOf 26 = 1 := by kernel_rfl
  have k5 : Tryz.prog.cellsOf 28 = 4 := by kernel_rfl
  rw [k5] at hl
  match ds, hl with
  | [a, b, c, d], _ =>
    obtain ⟨x0, _, e0⟩ := zb3 Tryz.underlying3 (show Sh Tryz.prog m 3 [a] by simpa [k1] using hf 0 _ rfl)
    obtain ⟨x1, _, e1⟩ := zb3 Tryz.underlying2 (show Sh Tryz.prog m 2 [b] by simpa [k2] using hf 1 _ rfl)
    obtain ⟨x2, e2⟩ := zj7 Tryz.underlying26 (show Sh Tryz.prog m 26 [c] by simpa [k4] using hf 2 _ rfl)
    obtain ⟨x3, _, e3⟩ := zcI Tryz.underlying9 (show Sh Tryz.prog m 9 [d] by simpa [k3] using hf 3 _ rfl)
    simp only [List.cons.injEq, and_true] at e0 e1 e2 e3
    exact ⟨⟨x0, x1, x2, x3⟩, by rw [e0, e1, e2, e3]; rfl⟩
theorem zgW : ∀ (n : Nat) (ds : List D), Sh Tryz.prog n 31 ds → ∃ e : E, ds = encE e := by
  intro n
  induction n using Nat.strongRecOn with
  | _ n ih =>
  intro ds h
  obtain ⟨m, rfl, hl, hf⟩ := zbM Tryz.underlying31 h
  have k1 : Tryz.prog.cellsOf 3 = 1 := by kernel_rfl
  have k3 : Tryz.prog.cellsOf 9 = 1 := by kernel_rfl
  have k4 : Tryz.prog.cellsOf 29 = 1 := by kernel_rfl
  have k5 : Tryz.prog.cellsOf 28 = 4 := by kernel_rfl
  have k6 : Tryz.prog.cellsOf 31 = 7 := by kernel_rfl
  rw [k6] at hl
  match ds, hl with
  | [a0, a1, a2, a3, a4, a5, a6], _ =>
    obtain ⟨x0, _, e0⟩ := zb3 Tryz.underlying3 (show Sh Tryz.prog m 3 [a0] by simpa [k1] using hf 0 _ rfl)
    obtain ⟨x1, _, e1⟩ := zcI Tryz.underlying9 (show Sh Tryz.prog m 9 [a1] by simpa [k3] using hf 1 _ rfl)
    obtain ⟨x2, e2⟩ := zfX (show Sh Tryz.prog m 28 [a2, a3, a4, a5] by simpa [k5] using hf 2 _ rfl)
    obtain ⟨m3, rows, hm3, e3, _, hr⟩ := zb8 Tryz.underlying29 (show Sh Tryz.prog m 29 [a6] by simpa [k4] using hf 3 _ rfl)
    simp only [List.cons.injEq, and_true, encV] at e0 e1 e2 e3
    obtain ⟨l, rfl⟩ := zbQ encE (fun q => Sh Tryz.prog m3 31 q) (fun q hq => ih m3 (by omega) q hq) rows hr
    obtain ⟨e2, e2', e2'', e2'''⟩ := e2
    exact ⟨⟨x0, x1, x2, l⟩, by rw [zbi, e0, e1, e2, e2', e2'', e2''', e3]⟩
theorem zlt : ∀ (n : Nat) (ds : List D), Sh Tryz.prog n 34 ds → ∃ e : Pt, ds = encP e := by
  intro n
  induction n using Nat.strongRecOn with
  | _ n ih =>
  intro ds h
  obtain ⟨m, rfl, hl, hf⟩ := zbM Tryz.underlying34 h
  have k1 : Tryz.prog.cellsOf 3 = 1 := by kernel_rfl
  have k3 : Tryz.prog.cellsOf 9 = 1 := by kernel_rfl
  have k4 : Tryz.prog.cellsOf 32 = 1 := by kernel_rfl
  have k5 : Tryz.prog.cellsOf 31 = 7 := by kernel_rfl
  have k6 : Tryz.prog.cellsOf 34 = 20 := by kernel_rfl
  rw [k6] at hl
  match ds, hl with
  | [a0, a1, a2, b0, b1, b2, b3, b4, b5, b6, c0, c1, c2, c3, c4, c5, c6, a5, a6, a7], _ =>
    obtain ⟨x0, _, e0⟩ := zb3 Tryz.underlying3 (show Sh Tryz.prog m 3 [a0] by simpa [k1] using hf 0 _ rfl)
    obtain ⟨x1, _, e1⟩ := zcI Tryz.underlying9 (show Sh Tryz.prog m 9 [a1] by simpa [k3] using hf 1 _ rfl)
    obtain ⟨x2, _, e2⟩ := zb3 Tryz.underlying3 (show Sh Tryz.prog m 3 [a2] by simpa [k1] using hf 2 _ rfl)
    obtain ⟨x3, e3⟩ := zgW _ _ (show Sh Tryz.prog m 31 [b0, b1, b2, b3, b4, b5, b6] by simpa [k5] using hf 3 _ rfl)
    obtain ⟨x4, e4⟩ := zgW _ _ (show Sh Tryz.prog m 31 [c0, c1, c2, c3, c4, c5, c6] by simpa [k5] using hf 4 _ rfl)
    obtain ⟨x5, _, e5⟩ := zb3 Tryz.underlying3 (show Sh Tryz.prog m 3 [a5] by simpa [k1] using hf 5 _ rfl)
    obtain ⟨x6, _, e6⟩ := zb3 Tryz.underlying3 (show Sh Tryz.prog m 3 [a6] by simpa [k1] using hf 6 _ rfl)
    obtain ⟨m3, rows, hm3, e7, _, hr⟩ := zb8 Tryz.underlying32 (show Sh Tryz.prog m 32 [a7] by simpa [k4] using hf 7 _ rfl)
    obtain ⟨l, rfl⟩ := zbQ encP (fun q => Sh Tryz.prog m3 34 q) (fun q hq => ih m3 (by omega) q hq) rows hr
    rw [zbi] at e3 e4
    simp only [List.cons.injEq, and_true] at e0 e1 e2 e3 e4 e5 e6 e7
    obtain ⟨f0, f1, f2, f3, f4, f5, f6⟩ := e3
    obtain ⟨g0, g1, g2, g3, g4, g5, g6⟩ := e4
    exact ⟨⟨x0, x1, x2, x3, x4, x5, x6, l⟩, by rw [za9, e0, e1, e2, f0, f1, f2, f3, f4, f5, f6, g0, g1, g2, g3, g4, g5, g6, e5, e6, e7]⟩
def simpleL : List TypeId := [3, 2, 4, 9, 26, 76, 28, 31, 29, 34, 32]
section
variable {S : Nat → Nat → Prop} {w : World} {ds : List D} {v : Value}
theorem zmp {rows : List (List D)} {A : Option Addr} {n c : Nat} (hv : v = .slice A n c) (h : RDL S w [.sl rows] v.cells.toList) : PV S w (vL rows) v := fun _ _ => by
  obtain ⟨u, hu, hr⟩ := h.2 0 _ rfl
  subst hv
  simp only [Value.cells, List.getElem?_cons_zero, Option.some.injEq] at hu
  subst hu
  exact .one hr
theorem zh2 {us : Array Value} (hv : v = .agg us) (h : RDL S w ds v.cells.toList) : PV S w (.dat ds) v := fun _ _ => by
  subst hv
  have h2 : RDL S w ds us.toList := h
  have := RV.dat (γ := ‹Nat → Nat›) (T := ‹Nat → Value›) h2
  rwa [Array.toArray_toList] at this
theorem zm3 {x : Value} (h : x.oneCell' = true) : PV S w (.one (.d (.v x))) x := fun _ _ => .one (.v _ h)
theorem zi4 : ArgsR S w [] [] := ⟨rfl, fun j y v h => by simp at h⟩
theorem zcU {x : VV} {xs : List VV} {vs : List Value} (h : PV S w x v) (k : ArgsR S w xs vs) : ArgsR S w (x :: xs) (v :: vs) :=
  ⟨by simp [k.1], fun j y u hy hu => by
    cases j with
    | zero => simp only [List.getElem?_cons_zero, Option.some.injEq] at hy hu; subst hy; subst hu; exact h
    | succ j => exact k.2 j y u (by simpa using hy) (by simpa using hu)⟩
end
section
variable {H : Type} {enc : TypeId × Value → H} {w : World} {base b0 : Nat} {spare : Nat → Bool} {held : Bool} {r : Reach} {ts : List TypeId} {ds : List (DataW H)}
end
end Go.Proofs.YtjhkehloipmjfaaGreat
namespace Go.Proofs.YtjhkehloipmjfaaGreat
structure Pr where
  name : ByteArray
  val : Val
def encPr (p : Pr) : List D := .v (.string p.name) :: encV p.val
structure Nd where
  name : ByteArray
  labels : List ByteArray
  props : List Pr
structure Ed where
  name : ByteArray
  src : Int
  dst : Int
  dir : Bool
  labels : List ByteArray
  props : List Pr
structure Gr where
  nodes : List Nd
  edges : List Ed
def encNd (n : Nd) : List D := [.v (.string n.name), .sl (n.labels.map encS), .sl (n.props.map encPr)]
def encEd (e : Ed) : List D := [.v (.string e.name), .v (.int .i64 e.src), .v (.int .i64 e.dst), .v (.bool e.dir), .sl (e.labels.map encS), .sl (e.props.map encPr)]
def encG (g : Gr) : List D := [.sl (g.nodes.map encNd), .sl (g.edges.map encEd)]
end Go.Proofs.YtjhkehloipmjfaaGreat
namespace Go.Proofs.YtjhkehloipmjfaaGreat
open Go.RowKit Go.ChangeShapes Go.WideShapes Go.Deep
theorem zkG {n : Nat} {ds : List D} (h : Sh Tryz.prog n 147 ds) : ∃ p : Pr, ds = encPr p := by
  obtain ⟨m, rfl, hl, hf⟩ := zbM Tryz.underlying147 h
  have k3 : Tryz.prog.cellsOf 9 = 1 := by kernel_rfl
  have k5 : Tryz.prog.cellsOf 28 = 4 := by kernel_rfl
  have k6 : Tryz.prog.cellsOf 147 = 5 := by kernel_rfl
  rw [k6] at hl
  match ds, hl with
  | [a1, a2, a3, a4, a5], _ =>
    obtain ⟨x1, _, e1⟩ := zcI Tryz.underlying9 (show Sh Tryz.prog m 9 [a1] by simpa [k3] using hf 0 _ rfl)
    obtain ⟨x2, e2⟩ := zfX (show Sh Tryz.prog m 28 [a2, a3, a4, a5] by simpa [k5] using hf 1 _ rfl)
    simp only [List.cons.injEq, and_true] at e1
    exact ⟨⟨x1, x2⟩, by unfold encPr; rw [e1, ← e2]⟩
theorem zf6 {n : Nat} {ds : List D} (h : Sh Tryz.prog n 77 ds) : ∃ l : List Pr, ds = [.sl (l.map encPr)] := by
  obtain ⟨m, rows, rfl, rfl, _, hr⟩ := zb8 Tryz.underlying77 h
  obtain ⟨l, rfl⟩ := zbQ encPr (fun q => Sh Tryz.prog m 147 q) (fun q hq => zkG hq) rows hr
  exact ⟨l, rfl⟩
section
variable {H : Type} {enc : TypeId × Value → H} {w : World} {base b0 : Nat} {spare : Nat → Bool} {held : Bool} {r : Reach} {ts : List TypeId} {ds : List (DataW H)}
end
end Go.Proofs.YtjhkehloipmjfaaGreat
namespace Go.Proofs.YtjhkehloipmjfaaGreat
open Go.RowKit
def ownV (p : Pt) : List ByteArray := if emptyS p.var = true then [] else [p.var]
def varsP : Pt → List ByteArray := foldP fun p ks => ownV p ++ ks.flatten
theorem zeW (p : Pt) : varsP p = ownV p ++ p.kids.flatMap varsP := by unfold varsP; rw [za8]; rfl
abbrev lV (l : List ByteArray) : C := .own 1001 (l.map encS)
abbrev cV (l : List ByteArray) : Cells := [(1000, 76, lV l)]
abbrev cD (l : List ByteArray) : Cells := [(1000, 76, lV l), (1002, 123, .fn 87 [1000])]
theorem zlF (p : Pt) (l : List ByteArray) (hl : l.length + (ownV p).length ≤ 1000000) : CallsG Tryz.prog 87 [.dat (encP p), .one (.po 1000 0)] 1001 9 1 (cV l) (vB true) (cV (l ++ ownV p)) := by
  (refine zb1 (Ty := Ty) zag Tryz.func87 rfl rfl rfl (by rfl) fun w0 S0 hp => ?_; simp only [argsF, gO, cellsO, List.zipIdx_cons, List.zipIdx_nil, List.map_cons, List.map_nil, Nat.zero_add])
  cases hv : emptyS p.var with
  | true =>
    have h1 : (!(p.var.toList == (⟨#[]⟩ : ByteArray).toList)) = false := by rw [zaX _ _ hv]; rfl
    have hn : ownV p = [] := by unfold ownV; rw [if_pos hv]
    rw [hn, List.append_nil]
    repeat (first | refine zac ?_ | refine zaa ?_ | ((first | refine zab ?_ | refine zaf ?_ | refine zae ?_); (first | change W _ _ _ _ _ | change EndG _ _ _ _ _ _ _ _ _ _ )) | (refine isRL ?_; first | refine uAs ?_ | (refine isBin ?_; first | refine uBb false ?_ ) | (refine isLd ?_; first | refine uL1 ?_ ) | (refine isFa ?_; first | refine uP ?_) | refine uBx ?_ ) | refine wF fun _ => ?_)
    exact zew (by rfl) rfl ghasA
  | false =>
    have h1 : (!(p.var.toList == (⟨#[]⟩ : ByteArray).toList)) = true := by rw [zaX _ _ hv]; rfl
    have hn : ownV p = [p.var] := by unfold ownV; rw [if_neg (by rw [hv]; decide)]
    rw [hn] at hl ⊢
    have hnx' : l.map encS ++ [encS p.var] = (l ++ [p.var]).map encS := by rw [List.map_append]; rfl
    have hlm : (l.map encS).length = l.length := List.length_map _
    simp only [List.length_singleton] at hl
    repeat (first | refine zac ?_ | refine zaa ?_ | ((first | refine zab ?_ | refine zae ?_); (first | change W _ _ _ _ _ | change EndG _ _ _ _ _ _ _ _ _ _ )) | (refine isRL ?_; first | refine uAs ?_ | (refine isBin ?_; first | refine uBb true ?_ ) | (refine isLd ?_; first | refine uL1 ?_ | refine uP ?_) | (refine isCl ?_; first | refine uAk ?_ ) | (refine isFa ?_; first | refine uP ?_) | (refine isSt ?_; first | refine uSc ?_) | refine uBs ?_ | refine uBx ?_ ) | refine wT fun _ => ?_ )
    exact zew (by rfl) rfl ghasA
def upto (l : List ByteArray) (ks : List Pt) (k : Nat) : List ByteArray := l ++ (ks.take k).flatMap varsP
theorem zjz (l : List ByteArray) (ks : List Pt) : upto l ks 0 = l := by unfold upto; simp
theorem zfR {l : List ByteArray} {ks : List Pt} {k : Nat} {q : Pt} (hq : ks[k]? = some q) : upto l ks (k + 1) = upto l ks k ++ varsP q := by
  unfold upto; rw [List.take_add_one, hq, Option.toList_some, List.flatMap_append, List.flatMap_singleton, List.append_assoc]
theorem zkE (l : List ByteArray) (ks : List Pt) (k : Nat) {q : Pt} (hq : ks[k]? = some q) : (upto l ks k).length + (varsP q).length ≤ l.length + (ks.flatMap varsP).length := by
  have h1 : upto l ks k ++ varsP q = upto l ks (k + 1) := (zfR hq).symm
  have h2 : ks.flatMap varsP = (ks.take (k + 1)).flatMap varsP ++ (ks.drop (k + 1)).flatMap varsP := by rw [← List.flatMap_append, List.take_append_drop]
  have h3 := congrArg List.length h1
  have h4 := congrArg List.length h2
  unfold upto at h3
  simp only [List.length_append] at h3 h4
  have h5 : (upto l ks k).length = l.length + ((ks.take k).flatMap varsP).length := by unfold upto; rw [List.length_append]
  unfold upto at h5 ⊢
  omega
theorem zj6 (ks : List Pt) (l : List ByteArray) (hb : l.length + (ks.flatMap varsP).length ≤ 1000000) (hk : ∀ q ∈ ks, ∀ m : List ByteArray, m.length + (varsP q).length ≤ 1000000 → CallsG Tryz.prog 109 [.dat (encP q), .one (.po 1002 0)] 1001 9 1 (cD m) (vB false) (cD (m ++ varsP q))) :
    CallsG Tryz.prog 108 [vL (ks.map encP), .one (.fn 109 [1002])] 1001 9 1 (cD l) (vI (-1)) (cD (l ++ ks.flatMap varsP)) := by
  have hlm : (ks.map encP).length = ks.length := List.length_map _
  (refine zb1 (Ty := Ty) zag Tryz.func108 rfl rfl rfl (by rfl) fun w0 S0 hp => ?_; simp only [argsF, gO, cellsO, List.zipIdx_cons, List.zipIdx_nil, List.map_cons, List.map_nil, Nat.zero_add])
  refine zbp (t := 0) rfl rfl fun hlim => ?_
  repeat (first | refine zac ?_ | refine zaa ?_ | ((first | refine zab ?_ ); (first | change W _ _ _ _ _ )) | (refine isRL ?_; first | refine uMv ?_ | refine uAs ?_ | (refine isCl ?_; first | refine uP ?_) ) | refine zad ?_ )
  refine zaL (α := Nat) (fun k => [(0, vL (ks.map encP)), (1, .one (.fn 109 [1002])), (7, vI ((ks.map encP).length : Int)), (8, vI k)]) (fun k => [(1001, .tok 9 1), (1000, .cell 76 (lV (upto l ks k))), (1002, .cell 123 (.fn 87 [1000]))]) (fun k => k ≤ ks.length) (fun k => ks.length - k) 0 (Nat.zero_le _) subA (by rw [zjz]; exact subA) ?_
  intro k hk1
  by_cases hlt : k < ks.length
  · obtain ⟨q, hq⟩ : ∃ q, ks[k]? = some q := ⟨_, List.getElem?_eq_getElem hlt⟩
    have hlen := zkE l ks k hq
    have hQ := hk q (List.mem_of_getElem? hq) (upto l ks k) (by omega)
    rw [← zfR hq] at hQ
    repeat (first | refine zac ?_ | refine zaa ?_ | ((first | refine zab ?_ | refine zaf ?_ ); (first | change W _ _ _ _ _ | change Exists _ )) | (refine isRL ?_; first | refine uMv ?_ | refine uAs ?_ | (refine isBin ?_; first | refine uIb ?_ | refine uBb true ?_ ) | (refine isLd ?_; first | refine uLp ?_ ) | (refine isCl ?_; first | refine uG (hQ) ?_ ) | refine uX ?_ ) | refine zad ?_ | refine wT fun _ => ?_ | refine wF fun _ => ?_)
    exact ⟨k + 1, by omega, hlt, subA, subA⟩
  · have hkl : k = ks.length := by omega
    subst hkl
    have hfin : upto l ks ks.length = l ++ ks.flatMap varsP := by unfold upto; rw [List.take_length]
    rw [hfin]
    repeat (first | refine zac ?_ | refine zaa ?_ | ((first | refine zab ?_ | refine zaD ?_ | refine zae ?_); (first | change W _ _ _ _ _ | change EndG _ _ _ _ _ _ _ _ _ _ )) | (refine isRL ?_; first | refine uAs ?_ | (refine isBin ?_; first | refine uBb false ?_ ) ) | refine wF fun _ => ?_)
    exact zew (by rfl) rfl ghasA
theorem zhE (ks : List Pt) (l : List ByteArray) (hb : l.length + (ks.flatMap varsP).length ≤ 1000000) (hk : ∀ q ∈ ks, ∀ m : List ByteArray, m.length + (varsP q).length ≤ 1000000 → CallsG Tryz.prog 109 [.dat (encP q), .one (.po 1002 0)] 1001 9 1 (cD m) (vB false) (cD (m ++ varsP q))) :
    CallsG Tryz.prog 84 [vL (ks.map encP), .one (.fn 109 [1002])] 1001 9 1 (cD l) (vB false) (cD (l ++ ks.flatMap varsP)) := by
  have hI := zj6 ks l hb hk
  (refine zb1 (Ty := Ty) zag Tryz.func84 rfl rfl rfl (by rfl) fun w0 S0 hp => ?_; simp only [argsF, gO, cellsO, List.zipIdx_cons, List.zipIdx_nil, List.map_cons, List.map_nil, Nat.zero_add])
  repeat (first | refine zac ?_ | refine zaa ?_ | ((first | refine zab ?_ | refine zae ?_); (first | change W _ _ _ _ _ | change EndG _ _ _ _ _ _ _ _ _ _ )) | (refine isRL ?_; first | refine uMv ?_ | refine uAs ?_ | (refine isBin ?_; first | refine uBb false ?_ ) | (refine isCl ?_; first | refine uG (hI) ?_ ) ))
  exact zew (by rfl) rfl ghasA
theorem zlz : ∀ (p : Pt) (l : List ByteArray), l.length + (varsP p).length ≤ 1000000 → CallsG Tryz.prog 86 [.dat (encP p), .one (.fn 87 [1000])] 1001 9 1 (cV l) (vB true) (cV (l ++ varsP p)) := Pt.ind fun p ih l hl => by
  have hC1 : ∀ q ∈ p.kids, ∀ m : List ByteArray, m.length + (varsP q).length ≤ 1000000 → CallsG Tryz.prog 109 [.dat (encP q), .one (.po 1002 0)] 1001 9 1 (cD m) (vB false) (cD (m ++ varsP q)) := fun q hq m hm => by
    have hW := ih q hq m hm
    (refine zb1 (Ty := Ty) zag Tryz.func109 rfl rfl rfl (by rfl) fun w0 S0 hp => ?_; simp only [argsF, gO, cellsO, List.zipIdx_cons, List.zipIdx_nil, List.map_cons, List.map_nil, Nat.zero_add])
    repeat (first | refine zac ?_ | refine zaa ?_ | ((first | refine zab ?_ | refine zae ?_); (first | change W _ _ _ _ _ | change EndG _ _ _ _ _ _ _ _ _ _ )) | (refine isRL ?_; first | refine uAs ?_ | (refine isLd ?_; first | refine uLb ?_ | refine uP ?_) | (refine isCl ?_; first | refine uG (hW) ?_ ) | refine uBu false ?_ | refine uBx ?_ ))
    exact zew (by rfl) rfl ghasA
  rw [zeW, List.length_append] at hl
  have hD := zlF p l (by omega)
  have hC := zhE p.kids (l ++ ownV p) (by rw [List.length_append]; omega) hC1
  rw [zeW, ← List.append_assoc]
  (refine zb1 (Ty := Ty) zag Tryz.func86 rfl rfl rfl (by rfl) fun w0 S0 hp => ?_; simp only [argsF, gO, cellsO, List.zipIdx_cons, List.zipIdx_nil, List.map_cons, List.map_nil, Nat.zero_add])
  repeat (first | refine zac ?_ | refine zaa ?_ | ((first | refine zab ?_ ); (first | change W _ _ _ _ _ )) | (refine isRL ?_; first | refine uMv ?_ | refine uAs ?_ | (refine isLd ?_; first | refine uLb ?_ | refine uL1 ?_ | refine uP ?_) | (refine isCl ?_; first | refine uG (hD) ?_ ) | (refine isFa ?_; first | refine uP ?_) | refine uP ?_ | refine uBx ?_ | refine uN ?_))
  refine uRn 3 1002 (zaS (hp 1002 rfl)) ?_
  repeat (first | ((first | refine zab ?_ | refine zae ?_); (first | change W _ _ _ _ _ | change EndG _ _ _ _ _ _ _ _ _ _ )) | (refine isRL ?_; first | refine uAs ?_ | (refine isCl ?_; first | refine uG (hC) ?_ ) | refine uBu true ?_ | refine uP ?_ ))
  exact zew (by rfl) rfl ghasA
end Go.Proofs.YtjhkehloipmjfaaGreat
namespace Go.Proofs.YtjhkehloipmjfaaGreat
open Go.RowKit
theorem zl2 (hc : SortsG Tryz.prog 88) (p : Pt) (hl : (varsP p).length ≤ 1000000) : CallsV Tryz.prog 59 [.dat (encP p)] (.own 9 1 ((sortB (varsP p)).map encS)) := by
  have hW := zlz p [] (by simpa using hl)
  rw [List.nil_append] at hW
  refine zeb (Ty := Ty) zag Tryz.func59 rfl rfl rfl fun w0 S0 hS hp => ?_
  simp only [argsF, List.zipIdx_cons, List.zipIdx_nil, List.map_cons, List.map_nil, Nat.zero_add]
  repeat (first | refine zac ?_ | refine zaa ?_ | ((first | refine zab ?_ ); (first | change W _ _ _ _ _ )) | (refine isRL ?_; first | refine uAs ?_ | (refine isLd ?_; first | refine uLb ?_ ) | refine uP ?_ | refine uBx ?_ | refine uN ?_))
  refine uNc 3 1001 9 1 ?_
  refine uRn 3 1000 (zaS (hp 1000)) ?_
  repeat (first | refine zac ?_ | refine zaa ?_ | ((first | refine zab ?_ ); (first | change W _ _ _ _ _ )) | (refine isRL ?_; first | (refine isLd ?_; first | refine uP ?_) | (refine isCl ?_; first | refine uG (hW) ?_ ) ))
  refine uSt 1001 1000 (varsP p) hc hS hl ?_
  repeat (first | refine zac ?_ | refine zaa ?_ | ((first | refine zab ?_ | refine zae ?_); (first | change W _ _ _ _ _ | change Exists _ )) | (refine isRL ?_; first | refine uAs ?_ | (refine isLd ?_; first | refine uP ?_) ))
  exact ⟨1001, by rfl, by rfl⟩
end Go.Proofs.YtjhkehloipmjfaaGreat
