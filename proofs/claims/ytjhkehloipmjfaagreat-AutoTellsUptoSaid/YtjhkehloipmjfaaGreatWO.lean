/- Walks: expressions: how many parts, how deep, which are right. -/
import Derived.Test.YtjhkehloipmjfaaGreatWI
import Derived.Test.YtjhkehloipmjfaaGreatVA
import Derived.Test.YtjhkehloipmjfaaGreatQ0
import Derived.Test.YtjhkehloipmjfaaGreatWE
import Derived.Deep.Slices
import Derived.Deep.Fields
import Derived.ChangeSame
import Derived.SliceStrings
import Derived.SizedLaws
import Derived.OpenShut
set_option maxRecDepth 100000
namespace Go.Proofs.YtjhkehloipmjfaaGreat
open Go.RowKit
theorem zaX (s : ByteArray) (b : Bool) (h : emptyS s = b) : (s.toList == ByteArray.toList ⟨#[]⟩) = b := by
  rw [← h, emptyS, ByteArray.toList_eq, ByteArray.toList_eq]
  cases s.data.toList <;> rfl
theorem zjK (s : ByteArray) (b : Bool) (h : emptyS s = b) : (!(s.toList == ByteArray.toList ⟨#[]⟩)) = !b := by rw [zaX s b h]
theorem zbt {α β : Type} {g : β → α → β} {l : List α} {k : Nat} {q : α} {b : β} (hq : l[k]? = some q) : (l.take (k + 1)).foldl g b = g ((l.take k).foldl g b) q := by
  rw [List.take_add_one, hq, Option.toList_some, List.foldl_append]; rfl
theorem zgz : ∀ e : E, CallsV Tryz.prog 52 [.dat (encE e)] (.val (vI (countE e))) := E.ind fun e ih => by
  (refine zaj (Ty := Ty) zag Tryz.func52 rfl rfl rfl fun w0 S0 => ?_; simp only [argsF, List.zipIdx_cons, List.zipIdx_nil, List.map_cons, List.map_nil, Nat.zero_add])
  have hlm : (e.kids.map encE).length = e.kids.length := List.length_map _
  repeat (first | refine zac ?_ | refine zaa ?_ | ((first | refine zab ?_ ); (first | change W _ _ _ _ _ )) | (refine isRL ?_; first | refine uAs ?_ | refine uBx ?_ ) | refine zad ?_ )
  refine zaL (α := Nat) (fun k => [(1, .one (.po 1 0)), (3, vI ((e.kids.take k).foldl (fun n q => IntKind.i64.wrap (n + countE q)) 1)), (4, vI k)]) (fun _ => [(1, .box 31 (encE e))]) (fun k => k ≤ e.kids.length) (fun k => e.kids.length - k) 0 (Nat.zero_le _) subA subA ?_
  intro k hk
  refine zfa (k := 1) (j := 6) (rows := e.kids.map encE) rfl (by rw [zbi]; rfl) fun hlim => ?_
  by_cases hlt : k < e.kids.length
  · obtain ⟨q, hq⟩ : ∃ q, e.kids[k]? = some q := ⟨_, List.getElem?_eq_getElem hlt⟩
    have hQ := ih q (List.mem_of_getElem? hq)
    have hnx := zbt (g := fun (n : Int) q => IntKind.i64.wrap (n + countE q)) (b := 1) hq
    repeat (first | refine zac ?_ | refine zaa ?_ | ((first | refine zab ?_ | refine zaf ?_ ); (first | change W _ _ _ _ _ | change Exists _ )) | (refine isRL ?_; first | refine uMv ?_ | refine uAs ?_ | (refine isBin ?_; first | refine uIb ?_ | refine uBb true ?_ | refine uP ?_) | (refine isLd ?_; first | refine uLp ?_ | refine uL1 ?_ ) | (refine isCl ?_; first | refine uC (hQ) ?_ | refine uP ?_) | (refine isFa ?_; first | refine uP ?_) | refine uX ?_ ) | refine zad ?_ | refine wT fun _ => ?_ )
    rw [← hnx]
    exact ⟨k + 1, by omega, hlt, subA, subA⟩
  · have hkl : k = e.kids.length := by omega
    subst hkl
    rw [List.take_length]
    repeat (first | refine zac ?_ | refine zaa ?_ | ((first | refine zab ?_ | refine zaD ?_ | refine zae ?_); (first | change W _ _ _ _ _ | change EndQ _ _ _ _ _ _ )) | (refine isRL ?_; first | refine uMv ?_ | refine uAs ?_ | (refine isBin ?_; first | refine uBb false ?_ ) | (refine isLd ?_; first | refine uL1 ?_ ) | (refine isCl ?_; first | refine uP ?_) | (refine isFa ?_; first | refine uP ?_) ) | refine wF fun _ => ?_)
    exact zah (by rfl) (zaU (zjh e).symm)
theorem zij (a b : Nat) : (if ((b : Int) > (a : Int)) then (b : Int) else (a : Int)) = ((max a b : Nat) : Int) := by
  split <;> omega
theorem zgK : ∀ (n : Nat) (_hn : n ≤ 50) (e : E), CallsV Tryz.prog 153 [.dat (encE e), vI n] (.val (vI (depthE n e)))
  | 0, _, e => by
    (refine zaj (Ty := Ty) zag Tryz.func153 rfl rfl rfl fun w0 S0 => ?_; simp only [argsF, List.zipIdx_cons, List.zipIdx_nil, List.map_cons, List.map_nil, Nat.zero_add])
    repeat (first | refine zac ?_ | refine zaa ?_ | ((first | refine zab ?_ | refine zae ?_); (first | change W _ _ _ _ _ | skip)) | (refine isRL ?_; first | refine uMv ?_ | refine uAs ?_ | (refine isBin ?_; first | refine uBb true ?_ ) | refine uBx ?_ ) | refine wT fun _ => ?_ )
    exact zah (by rfl) (zaU (by rw [zeJ]; rfl))
  | n + 1, hn, e => by
    have ih : ∀ q : E, CallsV Tryz.prog 153 [.dat (encE q), vI (((n + 1 : Nat) : Int) - 1)] (.val (vI (depthE n q))) := fun q => by
      rw [show ((n + 1 : Nat) : Int) - 1 = n by omega]; exact zgK n (by omega) q
    (refine zaj (Ty := Ty) zag Tryz.func153 rfl rfl rfl fun w0 S0 => ?_; simp only [argsF, List.zipIdx_cons, List.zipIdx_nil, List.map_cons, List.map_nil, Nat.zero_add])
    have hlm : (e.kids.map encE).length = e.kids.length := List.length_map _
    refine zac ?_
    repeat (first | refine zac ?_ | refine zaa ?_ | ((first | refine zab ?_ | refine zaf ?_ ); (first | change W _ _ _ _ _ )) | (refine isRL ?_; first | refine uMv ?_ | refine uAs ?_ | (refine isBin ?_; first | refine uBb false ?_ ) | (refine isLd ?_; first | refine uL1 ?_ ) | (refine isCl ?_; first | refine uP ?_) | (refine isFa ?_; first | refine uP ?_) | refine uBx ?_ ) | refine zad ?_ | refine wF fun _ => ?_)
    refine zaL (α := Nat) (fun k => [(1, vI ((n + 1 : Nat) : Int)), (2, .one (.po 2 0)), (5, vI (((e.kids.take k).foldl (fun d q => max d (depthE n q)) 0 : Nat) : Int)), (11, vL (e.kids.map encE)), (12, vI ((e.kids.map encE).length : Int)), (13, vI k)]) (fun _ => [(2, .box 31 (encE e))]) (fun k => k ≤ e.kids.length) (fun k => e.kids.length - k) 0 (Nat.zero_le _) subA subA ?_
    intro k hk
    refine zbp (t := 11) rfl rfl fun hlim => ?_
    by_cases hlt : k < e.kids.length
    · obtain ⟨q, hq⟩ : ∃ q, e.kids[k]? = some q := ⟨_, List.getElem?_eq_getElem hlt⟩
      have hQ := ih q
      have hnx := zbt (g := fun (d : Nat) q => max d (depthE n q)) (b := 0) hq
      repeat (first | refine zac ?_ | refine zaa ?_ | ((first | refine zab ?_ | refine zaf ?_ ); (first | change W _ _ _ _ _ | change Exists _ )) | (refine isRL ?_; first | refine uMv ?_ | refine uAs ?_ | (refine isBin ?_; first | refine uIb ?_ | refine uBb true ?_ ) | (refine isLd ?_; first | refine uLp ?_ | refine uLb ?_ ) | (refine isCl ?_; first | refine uC (hQ) ?_ | refine uP ?_) | (refine isSt ?_; first | refine uSw ?_ ) | refine uX ?_ | refine uN ?_) | refine zad ?_ | refine wT fun _ => ?_ )
      rw [zij, ← hnx]
      exact ⟨k + 1, by omega, hlt, subA, subA⟩
    · have hkl : k = e.kids.length := by omega
      subst hkl
      rw [List.take_length]
      have hle := zd5 (n + 1) e
      rw [zdi] at hle
      repeat (first | refine zac ?_ | refine zaa ?_ | ((first | refine zab ?_ | refine zaD ?_ | refine zae ?_); (first | change W _ _ _ _ _ | change EndQ _ _ _ _ _ _ )) | (refine isRL ?_; first | refine uMv ?_ | refine uAs ?_ | (refine isBin ?_; first | refine uIb ?_ | refine uBb false ?_ ) ) | refine wF fun _ => ?_)
      exact zah (by rfl) (zaU (by rw [zdi]; rfl))
theorem zkg (e : E) : CallsV Tryz.prog 125 [.dat (encE e)] (.val (vI (depthE 50 e))) := by
  have h := zgK 50 (Nat.le_refl _) e
  have hle := zd5 50 e
  (refine zaj (Ty := Ty) zag Tryz.func125 rfl rfl rfl fun w0 S0 => ?_; simp only [argsF, List.zipIdx_cons, List.zipIdx_nil, List.map_cons, List.map_nil, Nat.zero_add])
  repeat (first | refine zac ?_ | refine zaa ?_ | ((first | refine zab ?_ | refine zae ?_); (first | change W _ _ _ _ _ | change EndQ _ _ _ _ _ _ )) | (refine isRL ?_; first | refine uAs ?_ | (refine isLd ?_; first | refine uLb ?_ ) | (refine isCl ?_; first | refine uC (h) ?_ | refine uP ?_) | refine uBx ?_ ))
  exact zah (by rfl) (zaU (by rw [if_neg]; omega))
def idxF {α : Type} (f : α → Bool) : List α → Nat → Int
  | [], _ => -1
  | x :: l, k => if f x = true then k else idxF f l (k + 1)
theorem zgf {α : Type} (f : α → Bool) (x : α) (l : List α) (k : Nat) : idxF f (x :: l) k = if f x = true then (k : Int) else idxF f l (k + 1) := rfl
theorem zgZ {α : Type} (f : α → Bool) (k : Nat) : idxF f [] k = -1 := rfl
theorem zeU {α : Type} (f : α → Bool) : ∀ (l : List α) (k : Nat), decide (0 ≤ idxF f l k) = l.any f
  | [], k => rfl
  | x :: l, k => by
    unfold idxF
    rw [List.any_cons]
    cases h : f x with
    | true => simp
    | false => rw [if_neg (by decide), zeU f l]; simp
theorem zkP (l : List E) (g : FuncId) (caps : List (List D)) (f : E → Bool) (hg : ∀ e ∈ l, CallsV Tryz.prog g (.dat (encE e) :: caps.map fun q => .one (.d (.pi q))) (.val (vB (f e)))) :
    CallsV Tryz.prog 151 [vL (l.map encE), .one (.d (.fn g caps))] (.val (vI (idxF f l 0))) := by
  (refine zaj (Ty := Ty) zag Tryz.func151 rfl rfl rfl fun w0 S0 => ?_; simp only [argsF, List.zipIdx_cons, List.zipIdx_nil, List.map_cons, List.map_nil, Nat.zero_add])
  have hlm : (l.map encE).length = l.length := List.length_map _
  refine zbp (t := 0) rfl rfl fun hlim => ?_
  repeat (first | refine zac ?_ | refine zaa ?_ | ((first | refine zab ?_ ); (first | change W _ _ _ _ _ )) | (refine isRL ?_; first | refine uMv ?_ | refine uAs ?_ | (refine isCl ?_; first | refine uP ?_) ) | refine zad ?_ )
  refine zaL (α := Nat) (fun k => [(0, vL (l.map encE)), (1, .one (.d (.fn g caps))), (7, vI ((l.map encE).length : Int)), (8, vI k)]) (fun _ => []) (fun k => k ≤ l.length ∧ idxF f l 0 = idxF f (l.drop k) k) (fun k => l.length - k) 0 ⟨Nat.zero_le _, rfl⟩ subA subA ?_
  intro k ⟨hk, hi⟩
  by_cases hlt : k < l.length
  · obtain ⟨q, hq⟩ : ∃ q, l[k]? = some q := ⟨_, List.getElem?_eq_getElem hlt⟩
    have hQ := hg q (List.mem_of_getElem? hq)
    have hd : l.drop k = q :: l.drop (k + 1) := by
      rw [List.drop_eq_getElem_cons hlt]
      rw [List.getElem?_eq_getElem hlt] at hq
      injection hq with hq
      rw [hq]
    rw [hd, zgf] at hi
    cases hf : f q with
    | true =>
      rw [hf] at hQ
      rw [hf, if_pos rfl] at hi
      repeat (first | refine zac ?_ | refine zaa ?_ | ((first | refine zab ?_ | refine zaf ?_ | refine zae ?_); (first | change W _ _ _ _ _ | skip)) | (refine isRL ?_; first | refine uMv ?_ | refine uAs ?_ | (refine isBin ?_; first | refine uBb true ?_ ) | (refine isLd ?_; first | refine uLp ?_ ) | (refine isCl ?_; first | refine uDc (hQ) ?_ ) | refine uX ?_ ) | refine zad ?_ | refine wT fun _ => ?_ )
      exact zah (by rfl) (zaU hi.symm)
    | false =>
      rw [hf] at hQ
      rw [hf, if_neg (by decide)] at hi
      repeat (first | refine zac ?_ | refine zaa ?_ | ((first | refine zab ?_ | refine zaf ?_ ); (first | change W _ _ _ _ _ | change Exists _ )) | (refine isRL ?_; first | refine uMv ?_ | refine uAs ?_ | (refine isBin ?_; first | refine uIb ?_ | refine uBb true ?_ ) | (refine isLd ?_; first | refine uLp ?_ ) | (refine isCl ?_; first | refine uDc (hQ) ?_ ) | refine uX ?_ ) | refine zad ?_ | refine wT fun _ => ?_ | refine wF fun _ => ?_)
      exact ⟨k + 1, by omega, ⟨hlt, hi⟩, subA, subA⟩
  · rw [List.drop_of_length_le (by omega), zgZ] at hi
    repeat (first | refine zac ?_ | refine zaa ?_ | ((first | refine zab ?_ | refine zaD ?_ | refine zae ?_); (first | change W _ _ _ _ _ | change EndQ _ _ _ _ _ _ )) | (refine isRL ?_; first | refine uAs ?_ | (refine isBin ?_; first | refine uBb false ?_ ) ) | refine wF fun _ => ?_)
    exact zah (by rfl) (zaU hi.symm)
theorem zhJ (l : List E) (g : FuncId) (caps : List (List D)) (f : E → Bool) (hg : ∀ e ∈ l, CallsV Tryz.prog g (.dat (encE e) :: caps.map fun q => .one (.d (.pi q))) (.val (vB (f e)))) :
    CallsV Tryz.prog 117 [vL (l.map encE), .one (.d (.fn g caps))] (.val (vB (l.any f))) := by
  have hI := zkP l g caps f hg
  have hd := zeU f l 0
  (refine zaj (Ty := Ty) zag Tryz.func117 rfl rfl rfl fun w0 S0 => ?_; simp only [argsF, List.zipIdx_cons, List.zipIdx_nil, List.map_cons, List.map_nil, Nat.zero_add])
  cases ha : l.any f with
  | true =>
    rw [ha, decide_eq_true_eq] at hd
    repeat (first | refine zac ?_ | refine zaa ?_ | ((first | refine zab ?_ | refine zae ?_); (first | change W _ _ _ _ _ | change EndQ _ _ _ _ _ _ )) | (refine isRL ?_; first | refine uMv ?_ | refine uAs ?_ | (refine isBin ?_; first | refine uBb true ?_ ) | (refine isCl ?_; first | refine uC (hI) ?_ ) ))
    exact zah (by rfl) rfl
  | false =>
    rw [ha, decide_eq_false_iff_not] at hd
    repeat (first | refine zac ?_ | refine zaa ?_ | ((first | refine zab ?_ | refine zae ?_); (first | change W _ _ _ _ _ | change EndQ _ _ _ _ _ _ )) | (refine isRL ?_; first | refine uMv ?_ | refine uAs ?_ | (refine isBin ?_; first | refine uBb false ?_ ) | (refine isCl ?_; first | refine uC (hI) ?_ ) ))
    exact zah (by rfl) rfl
end Go.Proofs.YtjhkehloipmjfaaGreat
namespace Go.Proofs.YtjhkehloipmjfaaGreat
open Go.RowKit
def encMv (v : Mv) : List D := [.v (.int .i64 v.src), .v (.int .i64 v.dst), .v (.int .i64 v.elem)]
def autoS (m : Mach) : Obs := [(1000, .obj 45 [.own 1001 (m.elems.map encP), .own 1002 (m.moves.map encMv), .d (.v (.int .i64 m.states))]), (1001, .tok 34 20), (1002, .tok 68 3)]
theorem zkL (fr : Fr) (v : Value) : ev fr (.const v) = constV v := rfl
theorem zkk : constV (.agg #[.int .i64 0, .string ⟨#[]⟩, .int .i64 0, .int .i64 0, .string ⟨#[]⟩, .int .i64 0, .int .i64 0, .float .f64 0, .string ⟨#[]⟩, .slice none 0 0, .int .i64 0, .string ⟨#[]⟩, .int .i64 0, .int .i64 0, .float .f64 0, .string ⟨#[]⟩, .slice none 0 0, .int .i64 0, .int .i64 0, .slice none 0 0]) = some (.dat zPat) := by kernel_rfl
theorem zjO (fr : Fr) : layR 20 fr 0 [(0, .const (.agg #[.int .i64 0, .string ⟨#[]⟩, .int .i64 0, .int .i64 0, .string ⟨#[]⟩, .int .i64 0, .int .i64 0, .float .f64 0, .string ⟨#[]⟩, .slice none 0 0, .int .i64 0, .string ⟨#[]⟩, .int .i64 0, .int .i64 0, .float .f64 0, .string ⟨#[]⟩, .slice none 0 0, .int .i64 0, .int .i64 0, .slice none 0 0]))] = some [zPat] :=
  zap (by rw [zkL, zkk]; rfl) (by rfl) (za0 _ _ _)
theorem zdG (l : List Mv) : sized 3 (l.map encMv) = true := by
  unfold sized; rw [List.all_map]; exact List.all_eq_true.2 fun _ _ => rfl
theorem zhU (m : Mach) (hb : fits 1 m) : CallsM Tryz.prog 68 [.one (.po 1000 0)] (autoS m) (vI m.states) (autoS (stM m)) := by
  obtain ⟨h1, h2, h3, h4⟩ := hb
  have e1 : m.states + 1 - 1 = m.states := by omega
  unfold autoS
  (refine zaR (Ty := Ty) zag Tryz.func68 rfl rfl rfl (by rfl) fun w0 S0 hp => ?_; simp only [argsF, List.zipIdx_cons, List.zipIdx_nil, List.map_cons, List.map_nil, Nat.zero_add])
  repeat' (first | refine zac ?_ | refine zaa ?_ | ((first | refine zab ?_ | refine zae ?_); (first | change W _ _ _ _ _ | change EndM _ _ _ _ _ _ _ )) | (refine isRL ?_; first | refine uMv ?_ | refine uAs ?_ | (refine isBin ?_; first | refine uIb ?_ ) | (refine isLd ?_; first | refine uP ?_) | (refine isFa ?_; first | refine uP ?_) | (refine isSt ?_; first | refine uSo ?_) | refine uNp ?_ ))
  exact zcO (by rfl) (by rw [e1]) ghasA
theorem zfw (m : Mach) (s t e : Int) (hb : m.moves.length + 1 ≤ 40000) : CallsM Tryz.prog 67 [.one (.po 1000 0), vI s, vI t, vI e] (autoS m) (.tup []) (autoS (mvM s t e m)) := by
  have hz := zdG m.moves
  unfold autoS
  (refine zaR (Ty := Ty) zag Tryz.func67 rfl rfl rfl (by rfl) fun w0 S0 hp => ?_; simp only [argsF, List.zipIdx_cons, List.zipIdx_nil, List.map_cons, List.map_nil, Nat.zero_add])
  have hnx : m.moves.map encMv ++ [[.v (.int .i64 s), .v (.int .i64 t), .v (.int .i64 e)]] = (m.moves ++ [Mv.mk s t e]).map encMv := by rw [List.map_append]; rfl
  repeat' (first | refine zaa ?_ | ((first | refine zab ?_ ); (first | change EndM _ _ _ _ _ _ _ )) | (refine isRL ?_; first | refine uMv ?_ | (refine isLd ?_; first | refine uP ?_) | (refine isCl ?_; first | refine uAk ?_ ) | (refine isFa ?_; first | refine uP ?_) | (refine isBd ?_; first | refine uBd ?_ ) | (refine isSt ?_; first | refine uSo ?_) | refine uBs ?_ | refine uNp ?_ ))
  exact zcl (by rfl) rfl ghasA
end Go.Proofs.YtjhkehloipmjfaaGreat
namespace Go.Proofs.YtjhkehloipmjfaaGreat
open Go.RowKit Go.ChangeShapes Go.WideShapes Go.Deep
section
variable {H : Type} {enc : TypeId × Value → H} {P : Program} {w : World} {base : Nat} {spare : Nat → Bool} {held : Bool}
def contig (P : Program) : List Field → Nat → Option Nat
  | [], n => some n
  | f :: l, n => if f.offset = n ∧ 0 < P.cellsOf f.type then contig P l (n + P.cellsOf f.type) else none
def simpleT (P : Program) (L : List TypeId) (t : TypeId) : Bool :=
  match P.underlying t with
  | some (.int _) | some .bool | some .string | some (.float _) => true
  | some (.slice e) => L.contains e && Nat.blt 0 (P.cellsOf e) && Nat.blt 0 (P.bytesOf e)
  | some (.struct fs) => (fs.toList.all fun f => L.contains f.type) && (contig P fs.toList 0 == some (P.cellsOf t))
  | _ => false
def Sh (P : Program) : Nat → TypeId → List D → Prop
  | 0, _, _ => False
  | n + 1, t, ds => match P.underlying t with
    | some (.int k) => ∃ m, (Lit.int k m).wf = true ∧ ds = [.v (.int k m)]
    | some .bool => ∃ b, ds = [.v (.bool b)]
    | some .string => ∃ s : ByteArray, s.size ≤ 140737488351232 ∧ ds = [.v (.string s)]
    | some (.float k) => ∃ m, ds = [.v (.float k m)]
    | some (.struct fs) => ds.length = P.cellsOf t ∧ ∀ (i : Nat) (f : Field), fs[i]? = some f → Sh P n f.type ((ds.drop f.offset).take (P.cellsOf f.type))
    | some (.slice e) => ∃ rows, ds = [.sl rows] ∧ rows.length * P.bytesOf e ≤ 140737488351232 ∧ ∀ q ∈ rows, Sh P n e q ∧ q.length = P.cellsOf e
    | _ => False
abbrev SW_ (w : World) : Nat → Nat → Prop := fun b _ => b < w.heap.size
theorem zhr {t : TypeId} {k : FloatKind} {fuel : Nat} {cs : List Value} {x : DataW H × List MemPlace} (ht : P.underlying t = some (.float k)) (h : DataW.trod enc P w base spare held fuel t cs = some x) : ∃ n, cs = [.float k n] := by
  cases fuel with
  | zero => simp [DataW.trod] at h
  | succ n =>
    unfold DataW.trod at h
    rw [ht] at h
    split at h <;> simp_all
theorem zc7 {e : TypeId} : ∀ (l : List (DataW H)) (d : DataW H), d ∈ l → ∀ v ∈ d.weights P e, v ∈ DataW.weightsAll P e l
  | [], _, h, _, _ => by cases h
  | x :: l, d, h, v, hv => by
    unfold DataW.weightsAll
    rcases List.mem_cons.1 h with rfl | h
    · exact List.mem_append_left _ hv
    · exact List.mem_append_right _ (zc7 l d h v hv)
theorem RDL.len {S : Nat → Nat → Prop} {ds : List D} {us : List Value} (h : RDL S w ds us) : ds.length = us.length := h.1.symm
theorem zey {n : Nat} {S : Nat → Nat → Prop} (cs : List Value) : ∀ (fs : List Field) (a m : Nat), contig P fs a = some m → m ≤ cs.length →
    (∀ f ∈ fs, ∃ part, RDL S w part ((cs.drop f.offset).take (P.cellsOf f.type)) ∧ Sh P n f.type part) →
    a ≤ m ∧ ∃ ds, RDL S w ds ((cs.drop a).take (m - a)) ∧ ∀ f ∈ fs, a ≤ f.offset ∧ Sh P n f.type ((ds.drop (f.offset - a)).take (P.cellsOf f.type))
  | [], a, m, h, hm, _ => by
    simp only [contig, Option.some.injEq] at h
    subst h
    exact ⟨Nat.le_refl _, [], by simpa using RDL.nil, fun f hf => by cases hf⟩
  | f :: fs, a, m, h, hm, hp => by
    simp only [contig] at h
    split at h
    · rename_i hc
      obtain ⟨ho, hpos⟩ := hc
      obtain ⟨hle, ds, h1, h2⟩ := zey cs fs _ m h hm (fun g hg => hp g (List.mem_cons_of_mem _ hg))
      obtain ⟨part, h3, h4⟩ := hp f List.mem_cons_self
      rw [ho] at h3
      have hpl : part.length = P.cellsOf f.type := by rw [h3.len, List.length_take, List.length_drop]; omega
      refine ⟨by omega, part ++ ds, ?_, fun g hg => ?_⟩
      · have e : (cs.drop a).take (m - a) = (cs.drop a).take (P.cellsOf f.type) ++ (cs.drop (a + P.cellsOf f.type)).take (m - (a + P.cellsOf f.type)) := by
          rw [show m - a = P.cellsOf f.type + (m - (a + P.cellsOf f.type)) by omega, List.take_add, List.drop_drop]
        rw [e]
        exact h3.app h1
      · rcases List.mem_cons.1 hg with rfl | hg
        · refine ⟨by omega, ?_⟩
          rw [ho, Nat.sub_self, List.drop_zero, ← hpl, List.take_left]
          exact h4
        · obtain ⟨h5, h6⟩ := h2 g hg
          refine ⟨by omega, ?_⟩
          rw [List.drop_append, List.drop_of_length_le (by omega), List.nil_append, hpl, show g.offset - a - P.cellsOf f.type = g.offset - (a + P.cellsOf f.type) by omega]
          exact h6
    · cases h
theorem zhj {n : Nat} (h : n ≤ reachBytes) : n ≤ 140737488351232 := Nat.le_trans h (by decide)
theorem zgm : ∀ (ts : List TypeId) (ds : List (DataW H)) (i : Nat) (t : TypeId) (d : DataW H), ts[i]? = some t → ds[i]? = some d → ∀ v ∈ d.weights P t, v ∈ DataW.weightsEach P ts ds :=
  fun ts ds i _ _ ht hd v hv => DataW.weights_mem_each (P := P) (ts := ts) (ds := ds) (j := i) ht hd v hv
theorem zeT (L : List TypeId) (hL : L.all (simpleT P L) = true) : ∀ (fuel : Nat) (t : TypeId) (cs : List Value) (x : DataW H × List MemPlace), L.contains t = true → DataW.trod enc P w base spare held fuel t cs = some x → ((x.1.weights P t).all (· ≤ reachBytes) = true) →
    ∃ ds, RDL (SW_ w) w ds cs ∧ Sh P fuel t ds := by
  intro fuel
  induction fuel using Nat.strongRecOn with
  | _ fuel ih =>
  intro t cs x ht h hw
  have hs := List.all_eq_true.1 hL t (by simpa using ht)
  have hf0 : ∃ n, fuel = n + 1 := by
    cases fuel with
    | zero => simp [DataW.trod] at h
    | succ n => exact ⟨n, rfl⟩
  obtain ⟨n0, hn0⟩ := hf0
  unfold simpleT at hs
  split at hs
  · rename_i k hu
    obtain ⟨m, rfl, _, hwf⟩ := DataW.trod_int hu h
    exact ⟨[.v (.int k m)], .cons (.v _ rfl) .nil, by rw [hn0]; unfold Sh; rw [hu]; exact ⟨m, hwf, rfl⟩⟩
  · rename_i hu
    obtain ⟨b, rfl, _⟩ := DataW.trod_bool hu h
    exact ⟨[.v (.bool b)], .cons (.v _ rfl) .nil, by rw [hn0]; unfold Sh; rw [hu]; exact ⟨b, rfl⟩⟩
  · rename_i hu
    obtain ⟨s, rfl, hx, _⟩ := DataW.trod_string hu h
    refine ⟨[.v (.string s)], .cons (.v _ rfl) .nil, by
      rw [hn0]; unfold Sh; rw [hu]
      refine ⟨s, ?_, rfl⟩
      rw [hx] at hw
      have := List.all_eq_true.1 hw s.data.toList.length (by simp [DataW.weights])
      have h2 := zhj (of_decide_eq_true this)
      simpa using h2⟩
  · rename_i k hu
    obtain ⟨m, rfl⟩ := zhr hu h
    exact ⟨[.v (.float k m)], .cons (.v _ rfl) .nil, by rw [hn0]; unfold Sh; rw [hu]; exact ⟨m, rfl⟩⟩
  · rename_i e hu
    simp only [Bool.and_eq_true] at hs
    obtain ⟨⟨he, hce⟩, hbe⟩ := hs
    have hce' : 0 < P.cellsOf e := by simpa [Nat.blt_eq] using hce
    have hbe' : 0 < P.bytesOf e := by simpa [Nat.blt_eq] using hbe
    rcases DataW.trod_slice hu h with ⟨rfl, _⟩ | ⟨a, len, cap, elems, rest, n, hn, rfl, hx, hb, hl, hm, hlen, hel, _, _⟩
    · refine ⟨[.sl []], .cons RD.nil_ .nil, ?_⟩
      rw [hn0]; unfold Sh; rw [hu]
      exact ⟨[], rfl, by simp, by simp⟩
    · have hwS : (elems.length + rest.length) * P.bytesOf e ≤ 140737488351232 := by
        rw [hx] at hw
        have := List.all_eq_true.1 hw ((elems.length + rest.length) * P.bytesOf e) (by unfold DataW.weights; rw [hu]; simp)
        exact zhj (of_decide_eq_true this)
      have each : ∀ i, i < len → ∃ (ds : List D) (us : List Value), w.cells? base (a.add (i * P.cellsOf e)) (P.cellsOf e) = some us ∧ RDL (SW_ w) w ds us ∧ Sh P n e ds := by
        intro i hi
        have h4 := hel i hi
        rw [List.getElem?_eq_getElem (by omega)] at h4
        obtain ⟨us, hc, htr⟩ := Option.bind_eq_some_iff.1 h4
        obtain ⟨ds, h5, h6⟩ := ih n (by omega) e us _ he htr (by
          refine List.all_eq_true.2 fun v hv => List.all_eq_true.1 hw v ?_
          rw [hx]
          unfold DataW.weights
          rw [hu]
          exact List.mem_cons_of_mem _ (List.mem_append_left _ (zc7 _ _ (List.mem_map_of_mem (List.getElem_mem (by omega))) v hv)))
        exact ⟨ds, us, hc, h5, h6⟩
      let D_ : Nat → List D := fun i => if h : i < len then Classical.choose (each i h) else []
      let U_ : Nat → List Value := fun i => if h : i < len then Classical.choose (Classical.choose_spec (each i h)) else []
      have hDU : ∀ i, i < len → w.cells? base (a.add (i * P.cellsOf e)) (P.cellsOf e) = some (U_ i) ∧ RDL (SW_ w) w (D_ i) (U_ i) ∧ Sh P n e (D_ i) := by
        intro i hi
        simp only [D_, U_, dif_pos hi]
        exact Classical.choose_spec (Classical.choose_spec (each i hi))
      have hcl : ∀ i, i < len → (U_ i).length = P.cellsOf e ∧ ∀ j, j < P.cellsOf e → w.cell? ((a.add (i * P.cellsOf e)).add j) = (U_ i)[j]? := fun i hi => by
        obtain ⟨_, h1, h2⟩ := World.cells?_some (hDU i hi).1
        exact ⟨h1, h2⟩
      have hlen2 : ((List.range len).map D_).length = len := by simp
      have hcell : ∀ i j, i < len → j < P.cellsOf e → ∃ u, (U_ i)[j]? = some u ∧ w.cell? ((a.add (i * P.cellsOf e)).add j) = some u := fun i j hi hj => by
        obtain ⟨h1, h2⟩ := hcl i hi
        have hg := List.getElem?_eq_getElem (show j < (U_ i).length by omega)
        exact ⟨_, hg, (h2 j hj).trans hg⟩
      have hspot : 0 < len → a.spot = none := fun h0 => by
        obtain ⟨u, _, hu2⟩ := hcell 0 0 h0 hce'
        have e0 : (a.add (0 * P.cellsOf e)).add 0 = a := by simp [Addr.add]
        rw [e0] at hu2
        unfold World.cell? at hu2
        split at hu2
        · split at hu2
          · cases hu2
          · rename_i hsp; simpa using hsp
        · cases hu2
      refine ⟨[.sl ((List.range len).map D_)], .cons ?_ .nil, ?_⟩
      · rw [show Value.slice (some a) len cap = Value.slice (some a) ((List.range len).map D_).length cap by rw [hlen2]]
        refine .sl _ (some a) cap (P.cellsOf e) (fun i j => ((U_ i)[j]?).getD undef) (by rw [hlen2]; exact hl) (by
          rw [hlen2]
          have h9 : len * 1 ≤ (elems.length + rest.length) * P.bytesOf e := Nat.mul_le_mul (by omega) hbe'
          omega) (fun h => by cases h) (fun i q hq => ?_) (fun i q hq j y hy => ?_) (fun a' ha h0 => by cases ha; exact hspot (by rw [hlen2] at h0; exact h0)) fun a' ha i hi j hj => ?_
        · rw [List.getElem?_map, Option.map_eq_some_iff] at hq
          obtain ⟨i', hi', rfl⟩ := hq
          have hlt : i < len := by have := (List.getElem?_eq_some_iff.1 hi').1; simpa using this
          rw [List.getElem?_range hlt] at hi'
          injection hi' with hi'
          subst hi'
          rw [(hDU i hlt).2.1.len, (hcl i hlt).1]
        · rw [List.getElem?_map, Option.map_eq_some_iff] at hq
          obtain ⟨i', hi', rfl⟩ := hq
          have hlt : i < len := by have := (List.getElem?_eq_some_iff.1 hi').1; simpa using this
          rw [List.getElem?_range hlt] at hi'
          injection hi' with hi'
          subst hi'
          obtain ⟨u, hu1, hu2⟩ := (hDU i hlt).2.1.2 j y hy
          rw [hu1]; exact hu2
        · cases ha
          rw [hlen2] at hi
          obtain ⟨u, hu1, hu2⟩ := hcell i j hi hj
          have hsp := hspot (by omega)
          obtain ⟨b, off, sp⟩ := a
          simp only at hsp
          subst hsp
          rw [Addr.add_lit, Addr.add_lit] at hu2
          rw [hu1, ← Nat.add_assoc]
          have hlt := World.block_lt_of_cell? w _ hu2
          exact ⟨hlt, hu2⟩
      · rw [hn]; unfold Sh; rw [hu]
        refine ⟨_, rfl, ?_, fun q hq => ?_⟩
        · rw [hlen2]
          exact Nat.le_trans (Nat.mul_le_mul_right _ (by omega)) hwS
        · obtain ⟨i, hi, rfl⟩ := List.mem_map.1 hq
          have hlt : i < len := by simpa using hi
          exact ⟨(hDU i hlt).2.2, by rw [(hDU i hlt).2.1.len, (hcl i hlt).1]⟩
  · rename_i fs hu
    simp only [Bool.and_eq_true, beq_iff_eq] at hs
    obtain ⟨hmem, hcon⟩ := hs
    obtain ⟨xs, n, hn, hx, hlen, hxs, hfl⟩ := DataW.trod_struct hu h
    obtain ⟨_, ds, h1, h2⟩ := zey (w := w) (P := P) (n := n) (S := SW_ w) cs fs.toList 0 _ hcon (by omega) (fun f hf => by
      obtain ⟨i, hi, rfl⟩ := List.mem_iff_getElem.1 hf
      have hfi : fs[i]? = some fs.toList[i] := by rw [← Array.getElem?_toList, List.getElem?_eq_getElem hi]
      have hi' : i < xs.length := by rw [hxs]; simpa using hi
      have h3 := (hfl i _ hfi).trans (List.getElem?_eq_getElem hi')
      refine ih n (by omega) _ _ _ (List.all_eq_true.1 hmem _ (List.getElem_mem hi)) h3 (List.all_eq_true.2 fun v hv => List.all_eq_true.1 hw v ?_)
      rw [hx]
      unfold DataW.weights
      rw [hu]
      exact zgm _ _ i fs.toList[i].type xs[i].1 (by rw [List.getElem?_map, List.getElem?_eq_getElem hi]; rfl) (by rw [List.getElem?_map, List.getElem?_eq_getElem hi']; rfl) v hv)
    rw [List.drop_zero, Nat.sub_zero, List.take_of_length_le (by omega)] at h1
    refine ⟨ds, h1, ?_⟩
    rw [hn]; unfold Sh; rw [hu]
    refine ⟨by rw [h1.len, hlen], fun i f hf => ?_⟩
    have := (h2 f (by rw [← Array.getElem?_toList] at hf; exact List.mem_of_getElem? hf)).2
    rwa [Nat.sub_zero] at this
  · cases hs
end
end Go.Proofs.YtjhkehloipmjfaaGreat
