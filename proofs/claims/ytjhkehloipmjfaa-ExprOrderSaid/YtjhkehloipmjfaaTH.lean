/- Plain data of the program's types: expressions, texts, patterns. -/
import Derived.Test.YtjhkehloipmjfaaWO
import Derived.Test.YtjhkehloipmjfaaWE
import Derived.Test.YtjhkehloipmjfaaWM
import Derived.Test.YtjhkehloipmjfaaWT
import Derived.Test.YtjhkehloipmjfaaEG
import Derived.Test.YtjhkehloipmjfaaRows
import Derived.Test.YtjhkehloipmjfaaEV
import Derived.WalkKit
import Derived.ProofKit
import Derived.OpenShut
import Derived.ShutString
import Derived.ChangeOld
import Derived.Below
import Derived.SizedLaws
namespace Go.Proofs.Ytjhkehloipmjfaa
open Go.RowKit Go.ChangeShapes Go.WideShapes Go.Deep
theorem list_dec {α : Type} (f : α → List D) (p : List D → Prop) (h : ∀ q, p q → ∃ x, q = f x) : ∀ rows : List (List D), (∀ q ∈ rows, p q) → ∃ l : List α, rows = l.map f
  | [], _ => ⟨[], rfl⟩
  | q :: rows, hr => by
    obtain ⟨x, rfl⟩ := h q (hr q List.mem_cons_self)
    obtain ⟨l, rfl⟩ := list_dec f p h rows fun q hq => hr q (List.mem_cons_of_mem _ hq)
    exact ⟨x :: l, rfl⟩
theorem sh_succ {P : Program} {n : Nat} {t : TypeId} {ds : List D} (h : Sh P n t ds) : ∃ m, n = m + 1 := by
  cases n with
  | zero => exact h.elim
  | succ m => exact ⟨m, rfl⟩
section
variable {P : Program} {n : Nat} {t : TypeId} {ds : List D}
theorem sh_int {k : IntKind} (hu : P.underlying t = some (.int k)) (h : Sh P n t ds) : ∃ m, (Lit.int k m).wf = true ∧ ds = [.v (.int k m)] := by
  obtain ⟨m, rfl⟩ := sh_succ h; unfold Sh at h; rw [hu] at h; exact h
theorem sh_str (hu : P.underlying t = some .string) (h : Sh P n t ds) : ∃ s : ByteArray, s.size ≤ 140737488351232 ∧ ds = [.v (.string s)] := by
  obtain ⟨m, rfl⟩ := sh_succ h; unfold Sh at h; rw [hu] at h; exact h
theorem sh_float {k : FloatKind} (hu : P.underlying t = some (.float k)) (h : Sh P n t ds) : ∃ m, ds = [.v (.float k m)] := by
  obtain ⟨m, rfl⟩ := sh_succ h; unfold Sh at h; rw [hu] at h; exact h
theorem sh_slice {e : TypeId} (hu : P.underlying t = some (.slice e)) (h : Sh P n t ds) : ∃ m rows, n = m + 1 ∧ ds = [.sl rows] ∧ rows.length * P.bytesOf e ≤ 140737488351232 ∧ ∀ q ∈ rows, Sh P m e q := by
  obtain ⟨m, rfl⟩ := sh_succ h; unfold Sh at h; rw [hu] at h
  obtain ⟨rows, h1, h2, h3⟩ := h
  exact ⟨m, rows, rfl, h1, h2, fun q hq => (h3 q hq).1⟩
theorem sh_struct {fs : Array Field} (hu : P.underlying t = some (.struct fs)) (h : Sh P n t ds) : ∃ m, n = m + 1 ∧ ds.length = P.cellsOf t ∧ ∀ (i : Nat) (f : Field), fs[i]? = some f → Sh P m f.type ((ds.drop f.offset).take (P.cellsOf f.type)) := by
  obtain ⟨m, rfl⟩ := sh_succ h; unfold Sh at h; rw [hu] at h
  exact ⟨m, rfl, h.1, h.2⟩
end
set_option maxRecDepth 100000 in
theorem dec_value {n : Nat} {ds : List D} (h : Sh Try.prog n 24 ds) : ∃ v : Val, ds = encV v := by
  obtain ⟨m, rfl, hl, hf⟩ := sh_struct Try.underlying24 h
  have k1 : Try.prog.cellsOf 3 = 1 := by kernel_rfl
  have k2 : Try.prog.cellsOf 2 = 1 := by kernel_rfl
  have k3 : Try.prog.cellsOf 9 = 1 := by kernel_rfl
  have k4 : Try.prog.cellsOf 22 = 1 := by kernel_rfl
  have k5 : Try.prog.cellsOf 24 = 4 := by kernel_rfl
  rw [k5] at hl
  match ds, hl with
  | [a, b, c, d], _ =>
    obtain ⟨x0, _, e0⟩ := sh_int Try.underlying3 (show Sh Try.prog m 3 [a] by simpa [k1] using hf 0 _ rfl)
    obtain ⟨x1, _, e1⟩ := sh_int Try.underlying2 (show Sh Try.prog m 2 [b] by simpa [k2] using hf 1 _ rfl)
    obtain ⟨x2, e2⟩ := sh_float Try.underlying22 (show Sh Try.prog m 22 [c] by simpa [k4] using hf 2 _ rfl)
    obtain ⟨x3, _, e3⟩ := sh_str Try.underlying9 (show Sh Try.prog m 9 [d] by simpa [k3] using hf 3 _ rfl)
    simp only [List.cons.injEq, and_true] at e0 e1 e2 e3
    exact ⟨⟨x0, x1, x2, x3⟩, by rw [e0, e1, e2, e3]; rfl⟩
set_option maxRecDepth 100000 in
theorem dec_expr : ∀ (n : Nat) (ds : List D), Sh Try.prog n 27 ds → ∃ e : E, ds = encE e := by
  intro n
  induction n using Nat.strongRecOn with
  | _ n ih =>
  intro ds h
  obtain ⟨m, rfl, hl, hf⟩ := sh_struct Try.underlying27 h
  have k1 : Try.prog.cellsOf 3 = 1 := by kernel_rfl
  have k3 : Try.prog.cellsOf 9 = 1 := by kernel_rfl
  have k4 : Try.prog.cellsOf 25 = 1 := by kernel_rfl
  have k5 : Try.prog.cellsOf 24 = 4 := by kernel_rfl
  have k6 : Try.prog.cellsOf 27 = 7 := by kernel_rfl
  rw [k6] at hl
  match ds, hl with
  | [a0, a1, a2, a3, a4, a5, a6], _ =>
    obtain ⟨x0, _, e0⟩ := sh_int Try.underlying3 (show Sh Try.prog m 3 [a0] by simpa [k1] using hf 0 _ rfl)
    obtain ⟨x1, _, e1⟩ := sh_str Try.underlying9 (show Sh Try.prog m 9 [a1] by simpa [k3] using hf 1 _ rfl)
    obtain ⟨x2, e2⟩ := dec_value (show Sh Try.prog m 24 [a2, a3, a4, a5] by simpa [k5] using hf 2 _ rfl)
    obtain ⟨m3, rows, hm3, e3, _, hr⟩ := sh_slice Try.underlying25 (show Sh Try.prog m 25 [a6] by simpa [k4] using hf 3 _ rfl)
    simp only [List.cons.injEq, and_true, encV] at e0 e1 e2 e3
    obtain ⟨l, rfl⟩ := list_dec encE (fun q => Sh Try.prog m3 27 q) (fun q hq => ih m3 (by omega) q hq) rows hr
    obtain ⟨e2, e2', e2'', e2'''⟩ := e2
    exact ⟨⟨x0, x1, x2, l⟩, by rw [encE_eq, e0, e1, e2, e2', e2'', e2''', e3]⟩
def simpleL : List TypeId := [3, 2, 4, 9, 22, 41, 24, 27, 25, 53, 51]
theorem simple_ok : simpleL.all (simpleT Try.prog simpleL) = true := by kernel_rfl
section
variable {S : Nat → Nat → Prop} {w : World} {ds : List D} {v : Value}
theorem arg_sl {rows : List (List D)} {A : Option Addr} {n c : Nat} (hv : v = .slice A n c) (h : RDL S w [.sl rows] v.cells.toList) : PV S w (vL rows) v := fun _ _ => by
  obtain ⟨u, hu, hr⟩ := h.2 0 _ rfl
  subst hv
  simp only [Value.cells, List.getElem?_cons_zero, Option.some.injEq] at hu
  subst hu
  exact .one hr
theorem arg_agg {us : Array Value} (hv : v = .agg us) (h : RDL S w ds v.cells.toList) : PV S w (.dat ds) v := fun _ _ => by
  subst hv
  have h2 : RDL S w ds us.toList := h
  have := RV.dat (γ := ‹Nat → Nat›) (T := ‹Nat → Value›) h2
  rwa [Array.toArray_toList] at this
theorem arg_v {x : Value} (h : x.oneCell' = true) : PV S w (.one (.d (.v x))) x := fun _ _ => .one (.v _ h)
theorem argsR_nil : ArgsR S w [] [] := ⟨rfl, fun j y v h => by simp at h⟩
theorem argsR_cons {x : VV} {xs : List VV} {vs : List Value} (h : PV S w x v) (k : ArgsR S w xs vs) : ArgsR S w (x :: xs) (v :: vs) :=
  ⟨by simp [k.1], fun j y u hy hu => by
    cases j with
    | zero => simp only [List.getElem?_cons_zero, Option.some.injEq] at hy hu; subst hy; subst hu; exact h
    | succ j => exact k.2 j y u (by simpa using hy) (by simpa using hu)⟩
end
section
variable {H : Type} {enc : TypeId × Value → H} {w : World} {base b0 : Nat} {spare : Nat → Bool} {held : Bool} {r : Reach} {ts : List TypeId} {ds : List (DataW H)}
set_option maxRecDepth 100000 in
theorem arg_open {t : TypeId} {j : Nat} {v : Value} {d : DataW H} {p : List MemPlace} (hsz : (DataW.weightsEach Try.prog ts ds).all (· ≤ reachBytes) = true) (ht : ts[j]? = some t) (hd : ds[j]? = some d) (hc : simpleL.contains t = true) (h : DataW.Trod enc Try.prog w base spare held t v d p) : ∃ n x, RDL (SW_ w) w x v.cells.toList ∧ Sh Try.prog n t x := by
  obtain ⟨n, hf⟩ := h
  obtain ⟨x, h1, h2⟩ := open_any simpleL simple_ok n t _ _ hc hf (List.all_eq_true.2 fun y hy => List.all_eq_true.1 hsz y (DataW.weights_mem_each ht hd y hy))
  exact ⟨n, x, h1, h2⟩
set_option maxRecDepth 100000 in
theorem arg_expr {j : Nat} {v : Value} {d : DataW H} {p : List MemPlace} (hsz : (DataW.weightsEach Try.prog ts ds).all (· ≤ reachBytes) = true) (ht : ts[j]? = some 27) (hd : ds[j]? = some d)
    (hv : Value.okWide Try.prog w r b0 27 v) (h : DataW.Trod enc Try.prog w base spare held 27 v d p) : ∃ e : E, PV (SW_ w) w (.dat (encE e)) v := by
  obtain ⟨cs, e, -⟩ := okWide_struct Try.underlying27 hv
  obtain ⟨n, x, h1, h2⟩ := arg_open hsz ht hd rfl h
  obtain ⟨y, rfl⟩ := dec_expr n x h2
  exact ⟨y, arg_agg e h1⟩
end
end Go.Proofs.Ytjhkehloipmjfaa
/- Plain data: properties, values. -/
namespace Go.Proofs.Ytjhkehloipmjfaa
open Go.RowKit Go.ChangeShapes Go.WideShapes Go.Deep
set_option maxRecDepth 100000 in
theorem dec_prop {n : Nat} {ds : List D} (h : Sh Try.prog n 47 ds) : ∃ p : Pr, ds = encPr p := by
  obtain ⟨m, rfl, hl, hf⟩ := sh_struct Try.underlying47 h
  have k3 : Try.prog.cellsOf 9 = 1 := by kernel_rfl
  have k5 : Try.prog.cellsOf 24 = 4 := by kernel_rfl
  have k6 : Try.prog.cellsOf 47 = 5 := by kernel_rfl
  rw [k6] at hl
  match ds, hl with
  | [a1, a2, a3, a4, a5], _ =>
    obtain ⟨x1, _, e1⟩ := sh_str Try.underlying9 (show Sh Try.prog m 9 [a1] by simpa [k3] using hf 0 _ rfl)
    obtain ⟨x2, e2⟩ := dec_value (show Sh Try.prog m 24 [a2, a3, a4, a5] by simpa [k5] using hf 1 _ rfl)
    simp only [List.cons.injEq, and_true] at e1
    exact ⟨⟨x1, x2⟩, by unfold encPr; rw [e1, ← e2]⟩
theorem dec_props {n : Nat} {ds : List D} (h : Sh Try.prog n 28 ds) : ∃ l : List Pr, ds = [.sl (l.map encPr)] := by
  obtain ⟨m, rows, rfl, rfl, _, hr⟩ := sh_slice Try.underlying28 h
  obtain ⟨l, rfl⟩ := list_dec encPr (fun q => Sh Try.prog m 47 q) (fun q hq => dec_prop hq) rows hr
  exact ⟨l, rfl⟩
def propL : List TypeId := [3, 2, 9, 22, 24, 47, 28]
theorem prop_ok : propL.all (simpleT Try.prog propL) = true := by kernel_rfl
section
variable {H : Type} {enc : TypeId × Value → H} {w : World} {base b0 : Nat} {spare : Nat → Bool} {held : Bool} {r : Reach} {ts : List TypeId} {ds : List (DataW H)}
set_option maxRecDepth 100000 in
theorem arg_openP {t : TypeId} {j : Nat} {v : Value} {d : DataW H} {p : List MemPlace} (hsz : (DataW.weightsEach Try.prog ts ds).all (· ≤ reachBytes) = true) (ht : ts[j]? = some t) (hd : ds[j]? = some d) (hc : propL.contains t = true) (h : DataW.Trod enc Try.prog w base spare held t v d p) : ∃ (n : Nat) (x : List D), RDL (SW_ w) w x v.cells.toList ∧ Sh Try.prog n t x := by
  obtain ⟨n, hf⟩ := h
  obtain ⟨x, h1, h2⟩ := open_any propL prop_ok n t _ _ hc hf (List.all_eq_true.2 fun y hy => List.all_eq_true.1 hsz y (DataW.weights_mem_each ht hd y hy))
  exact ⟨n, x, h1, h2⟩
set_option maxRecDepth 100000 in
theorem arg_props {j : Nat} {v : Value} {d : DataW H} {p : List MemPlace} (hsz : (DataW.weightsEach Try.prog ts ds).all (· ≤ reachBytes) = true) (ht : ts[j]? = some 28) (hd : ds[j]? = some d)
    (hv : Value.okWide Try.prog w r b0 28 v) (h : DataW.Trod enc Try.prog w base spare held 28 v d p) : ∃ l : List Pr, PV (SW_ w) w (vL (l.map encPr)) v := by
  obtain ⟨a, n, c, e⟩ := okWide_slice Try.underlying28 hv
  obtain ⟨n, x, h1, h2⟩ := arg_openP hsz ht hd rfl h
  obtain ⟨l, rfl⟩ := dec_props h2
  exact ⟨l, arg_sl e h1⟩
set_option maxRecDepth 100000 in
theorem arg_value {j : Nat} {v : Value} {d : DataW H} {p : List MemPlace} (hsz : (DataW.weightsEach Try.prog ts ds).all (· ≤ reachBytes) = true) (ht : ts[j]? = some 24) (hd : ds[j]? = some d)
    (hv : Value.okWide Try.prog w r b0 24 v) (h : DataW.Trod enc Try.prog w base spare held 24 v d p) : ∃ x : Val, PV (SW_ w) w (.dat (encV x)) v := by
  obtain ⟨cs, e, -⟩ := okWide_struct Try.underlying24 hv
  obtain ⟨n, x, h1, h2⟩ := arg_openP hsz ht hd rfl h
  obtain ⟨y, rfl⟩ := dec_value h2
  exact ⟨y, arg_agg e h1⟩
end
end Go.Proofs.Ytjhkehloipmjfaa
/- The law ExprProps holds of every input: it returns true, and each argument reads as it read before. -/
namespace Go.Proofs.Ytjhkehloipmjfaa.exprProps
open Go.ChangeShapes Go.WideShapes Go.ChangeAt Go.RowKit
open Go.ChangeMaps (open_string shut_string)
theorem own : ownKnob Try.prog.godebug = none := by kernel_rfl
theorem laidOut : laidOutB Try.prog = true := by kernel_rfl
set_option maxRecDepth 100000 in
theorem lifted (os : Os) (started : os.Started) (H : Type) (enc : TypeId × Value → H) :
    ReturnsInHanded {} Try.checked os 6 .any (Rows.exprPropsSpec.pre6 enc Try.prog Try.f6 Rows.exprPropsRow.domain false) (Rows.exprPropsSpec.post enc Try.prog Try.f6 false true false false) := by
  refine returnsInHanded_of_change_sized (C := Try.checked) own started (by kernel_rfl) Try.func6
    (ChangeSpec.witness6 (enc := enc) (C := Try.checked) false ⟨#[], #[.agg #[.int .i64 0, .string ByteArray.empty, .int .i64 0, .int .i64 0, .float .f64 0, .string ByteArray.empty, .slice none 0 0], .slice none 0 0, .string ByteArray.empty, .agg #[.int .i64 0, .int .i64 0, .float .f64 0, .string ByteArray.empty]], []⟩ 8 (by kernel_rfl) (by kernel_rfl) (by kernel_rfl) (by kernel_rfl)) ?_
  intro W base args ds gs before hval0 hW hcnd hsz0 _
  have hsz : (DataW.weightsEach Try.prog (Try.f6.params.toList ++ Rows.exprPropsSpec.plain.varTypes Try.prog) (ds ++ gs)).all (· ≤ reachBytes) = true := hsz0
  have hval : ∀ (j : Nat) t v, Try.f6.params[j]? = some t → args[j]? = some v → Value.okWide Try.prog W .any base t v := hval0
  have hW' := hW
  obtain ⟨p, q, hA0, hV, rfl, hfz, hnd⟩ := hW
  have hA : DataW.TrodAll enc Try.prog W 0 (fun _ => true) true Try.f6.params.toList args.toList ds p := hA0
  rw [Try.params6] at hA hval hsz
  obtain ⟨v0, vs0, d0, ds0, p0, q0, hargs, rfl, rfl, h0, r0⟩ := trodAll_cons hA
  obtain ⟨v1, vs1, d1, ds1, p1, q1, rfl, rfl, rfl, h1, r1⟩ := trodAll_cons r0
  obtain ⟨v2, vs2, d2, ds2, p2, q2, rfl, rfl, rfl, h2, r2⟩ := trodAll_cons r1
  obtain ⟨v3, vs3, d3, ds3, p3, q3, rfl, rfl, rfl, h3, r3⟩ := trodAll_cons r2
  obtain ⟨rfl, rfl, rfl⟩ := trodAll_nil r3
  obtain rfl : args = #[v0, v1, v2, v3] := by cases args; simp_all
  obtain ⟨rfl, rfl⟩ := trodVars_none hV
  have k0 := h0
  have lt0 : ∀ x ∈ p0, x.block < W.heap.size := by obtain ⟨m, hm⟩ := k0; exact DataW.trod_lt m _ _ _ hm
  obtain ⟨x0, z0⟩ := arg_expr hsz (j := 0) rfl rfl (hval 0 27 v0 rfl rfl) h0
  have k1 := h1
  have lt1 : ∀ x ∈ p1, x.block < W.heap.size := by obtain ⟨m, hm⟩ := k1; exact DataW.trod_lt m _ _ _ hm
  obtain ⟨x1, z1⟩ := arg_props hsz (j := 1) rfl rfl (hval 1 28 v1 rfl rfl) h1
  obtain ⟨a2, rfl, rfl, rfl, y2⟩ := open_string Try.underlying9 (hval 2 9 v2 rfl rfl) h2
  have w2 : a2.size ≤ 140737488351232 := by
    have z := sized_string hsz (j := 2) (t := 9) rfl rfl
    rw [Array.length_toList] at z
    exact z
  have k3 := h3
  have lt3 : ∀ x ∈ p3, x.block < W.heap.size := by obtain ⟨m, hm⟩ := k3; exact DataW.trod_lt m _ _ _ hm
  obtain ⟨x3, z3⟩ := arg_value hsz (j := 3) rfl rfl (hval 3 24 v3 rfl rfl) h3
  clear hA0 hval0 hsz0 hsz
  refine ((exprProps_v x0 x1 a2 w2 x3).out (SW_ W) W [v0, v1, .string a2, v3] (argsR_cons z0 (argsR_cons z1 (argsR_cons (arg_v rfl) (argsR_cons z3 argsR_nil)))) (fun _ _ hs => hs)).mono fun e W' hq => ?_
  obtain ⟨v, S', rfl, bel, _, _, hv⟩ := hq
  obtain rfl := pv_v hv
  exact ⟨_, rfl, _, _, _, [], _, [], hW', trodAll_mk1 (shut_bool Try.underlying4 _), (trodAll_cons_mk (Below.trod laidOut (by kernel_rfl) (of_decide_eq_true (by kernel_rfl)) k0 bel lt0) (trodAll_cons_mk (Below.trod laidOut (by kernel_rfl) (of_decide_eq_true (by kernel_rfl)) k1 bel lt1) (trodAll_cons_mk (shut_string Try.underlying9 y2) (trodAll_cons_mk (Below.trod laidOut (by kernel_rfl) (of_decide_eq_true (by kernel_rfl)) k3 bel lt3) trodAll_mk0)))), rfl, bel.frame _, fun h => by cases h⟩
theorem over : Rows.exprPropsRow.holds Try.pinned (OpenSpec.ofChange Rows.exprPropsSpec) :=
  OpenClaim.holds_of_wide 6 Try.f6 rfl rfl rfl rfl rfl rfl rfl ⟨rfl, rfl, rfl, rfl, rfl⟩ rfl rfl rfl rfl rfl (by kernel_rfl) Try.func6 (by kernel_rfl)
    (of_decide_eq_true (by kernel_rfl)) (by unfold Func.isWrapper; first | (rw [if_pos (by decide +kernel)]; kernel_rfl) | (rw [if_neg (by decide +kernel)]; exact ⟨rfl, rfl⟩))
    (fun os started H enc _ => lifted os started H enc)
theorem proved : Rows.ExprPropsSaid := over
end Go.Proofs.Ytjhkehloipmjfaa.exprProps
namespace Go.Proofs.Ytjhkehloipmjfaa
/-- The row, under a short name, for the claim. -/
theorem exprProps_holds : Rows.ExprPropsSaid := exprProps.proved
end Go.Proofs.Ytjhkehloipmjfaa
