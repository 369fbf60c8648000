/- Plain data of the program's types: expressions, texts, patterns. -/
import Derived.Test.YtgdgcloenhnbiaaWO
import Derived.Test.YtgdgcloenhnbiaaWE
import Derived.Test.YtgdgcloenhnbiaaWP
import Derived.Test.YtgdgcloenhnbiaaWT
namespace Go.Proofs.Ytgdgcloenhnbiaa
open Go.RowKit Go.ChangeShapes Go.WideShapes Go.Deep
theorem list_dec {α : Type} (f : α → List D) (p : List D → Prop) (h : ∀ q, p q → ∃ x, q = f x) : ∀ rows : List (List D), (∀ q ∈ rows, p q) → ∃ l : List α, rows = l.map f
  | [], _ => ⟨[], rfl⟩
  | q :: rows, hr => by
    obtain ⟨x, rfl⟩ := h q (hr q List.mem_cons_self)
    obtain ⟨l, rfl⟩ := list_dec f p h rows fun q hq => hr q (List.mem_cons_of_mem _ hq)
    exact ⟨x :: l, rfl⟩
theorem sh_succ {P : Program} {n : Nat} {t : TypeId} {ds : List D} (h : Sh P n t ds) : ∃ m, n = m + 1 := by
  cases n with
  | zero => exact h.elim
  | succ m => exact ⟨m, rfl⟩
section
variable {P : Program} {n : Nat} {t : TypeId} {ds : List D}
theorem sh_int {k : IntKind} (hu : P.underlying t = some (.int k)) (h : Sh P n t ds) : ∃ m, (Lit.int k m).wf = true ∧ ds = [.v (.int k m)] := by
  obtain ⟨m, rfl⟩ := sh_succ h; unfold Sh at h; rw [hu] at h; exact h
theorem sh_bool (hu : P.underlying t = some .bool) (h : Sh P n t ds) : ∃ b, ds = [.v (.bool b)] := by
  obtain ⟨m, rfl⟩ := sh_succ h; unfold Sh at h; rw [hu] at h; exact h
theorem sh_str (hu : P.underlying t = some .string) (h : Sh P n t ds) : ∃ s : ByteArray, s.size ≤ 140737488351232 ∧ ds = [.v (.string s)] := by
  obtain ⟨m, rfl⟩ := sh_succ h; unfold Sh at h; rw [hu] at h; exact h
theorem sh_float {k : FloatKind} (hu : P.underlying t = some (.float k)) (h : Sh P n t ds) : ∃ m, ds = [.v (.float k m)] := by
  obtain ⟨m, rfl⟩ := sh_succ h; unfold Sh at h; rw [hu] at h; exact h
theorem sh_slice {e : TypeId} (hu : P.underlying t = some (.slice e)) (h : Sh P n t ds) : ∃ m rows, n = m + 1 ∧ ds = [.sl rows] ∧ rows.length * P.bytesOf e ≤ 140737488351232 ∧ ∀ q ∈ rows, Sh P m e q := by
  obtain ⟨m, rfl⟩ := sh_succ h; unfold Sh at h; rw [hu] at h
  obtain ⟨rows, h1, h2, h3⟩ := h
  exact ⟨m, rows, rfl, h1, h2, fun q hq => (h3 q hq).1⟩
theorem sh_struct {fs : Array Field} (hu : P.underlying t = some (.struct fs)) (h : Sh P n t ds) : ∃ m, n = m + 1 ∧ ds.length = P.cellsOf t ∧ ∀ (i : Nat) (f : Field), fs[i]? = some f → Sh P m f.type ((ds.drop f.offset).take (P.cellsOf f.type)) := by
  obtain ⟨m, rfl⟩ := sh_succ h; unfold Sh at h; rw [hu] at h
  exact ⟨m, rfl, h.1, h.2⟩
end
theorem dec_strs {n : Nat} {ds : List D} (h : Sh Try.prog n 47 ds) : ∃ l : List ByteArray, ds = [.sl (l.map encS)] ∧ l.length * 16 ≤ 140737488351232 ∧ ∀ s ∈ l, s.size ≤ 140737488351232 := by
  obtain ⟨m, rows, rfl, rfl, hb, hr⟩ := sh_slice Try.underlying47 h
  obtain ⟨l, rfl⟩ := list_dec encS (fun q => Sh Try.prog m 9 q) (fun q hq => by
    obtain ⟨s, _, rfl⟩ := sh_str Try.underlying9 hq; exact ⟨s, rfl⟩) rows hr
  have kb : Try.prog.bytesOf 9 = 16 := by kernel_rfl
  rw [kb, List.length_map] at hb
  refine ⟨l, rfl, hb, fun s hs => ?_⟩
  obtain ⟨s', h1, h2⟩ := sh_str Try.underlying9 (hr (encS s) (List.mem_map_of_mem hs))
  simp only [encS, List.cons.injEq, D.v.injEq, Value.string.injEq, and_true] at h2
  rw [h2]; exact h1
set_option maxRecDepth 100000 in
theorem dec_value {n : Nat} {ds : List D} (h : Sh Try.prog n 24 ds) : ∃ v : Val, ds = encV v := by
  obtain ⟨m, rfl, hl, hf⟩ := sh_struct Try.underlying24 h
  have k1 : Try.prog.cellsOf 3 = 1 := by kernel_rfl
  have k2 : Try.prog.cellsOf 2 = 1 := by kernel_rfl
  have k3 : Try.prog.cellsOf 9 = 1 := by kernel_rfl
  have k4 : Try.prog.cellsOf 22 = 1 := by kernel_rfl
  have k5 : Try.prog.cellsOf 24 = 4 := by kernel_rfl
  rw [k5] at hl
  match ds, hl with
  | [a, b, c, d], _ =>
    obtain ⟨x0, _, e0⟩ := sh_int Try.underlying3 (show Sh Try.prog m 3 [a] by simpa [k1] using hf 0 _ rfl)
    obtain ⟨x1, _, e1⟩ := sh_int Try.underlying2 (show Sh Try.prog m 2 [b] by simpa [k2] using hf 1 _ rfl)
    obtain ⟨x2, e2⟩ := sh_float Try.underlying22 (show Sh Try.prog m 22 [c] by simpa [k4] using hf 2 _ rfl)
    obtain ⟨x3, _, e3⟩ := sh_str Try.underlying9 (show Sh Try.prog m 9 [d] by simpa [k3] using hf 3 _ rfl)
    simp only [List.cons.injEq, and_true] at e0 e1 e2 e3
    exact ⟨⟨x0, x1, x2, x3⟩, by rw [e0, e1, e2, e3]; rfl⟩
set_option maxRecDepth 100000 in
theorem dec_expr : ∀ (n : Nat) (ds : List D), Sh Try.prog n 27 ds → ∃ e : E, ds = encE e := by
  intro n
  induction n using Nat.strongRecOn with
  | _ n ih =>
  intro ds h
  obtain ⟨m, rfl, hl, hf⟩ := sh_struct Try.underlying27 h
  have k1 : Try.prog.cellsOf 3 = 1 := by kernel_rfl
  have k3 : Try.prog.cellsOf 9 = 1 := by kernel_rfl
  have k4 : Try.prog.cellsOf 25 = 1 := by kernel_rfl
  have k5 : Try.prog.cellsOf 24 = 4 := by kernel_rfl
  have k6 : Try.prog.cellsOf 27 = 7 := by kernel_rfl
  rw [k6] at hl
  match ds, hl with
  | [a0, a1, a2, a3, a4, a5, a6], _ =>
    obtain ⟨x0, _, e0⟩ := sh_int Try.underlying3 (show Sh Try.prog m 3 [a0] by simpa [k1] using hf 0 _ rfl)
    obtain ⟨x1, _, e1⟩ := sh_str Try.underlying9 (show Sh Try.prog m 9 [a1] by simpa [k3] using hf 1 _ rfl)
    obtain ⟨x2, e2⟩ := dec_value (show Sh Try.prog m 24 [a2, a3, a4, a5] by simpa [k5] using hf 2 _ rfl)
    obtain ⟨m3, rows, hm3, e3, _, hr⟩ := sh_slice Try.underlying25 (show Sh Try.prog m 25 [a6] by simpa [k4] using hf 3 _ rfl)
    simp only [List.cons.injEq, and_true, encV] at e0 e1 e2 e3
    obtain ⟨l, rfl⟩ := list_dec encE (fun q => Sh Try.prog m3 27 q) (fun q hq => ih m3 (by omega) q hq) rows hr
    obtain ⟨e2, e2', e2'', e2'''⟩ := e2
    exact ⟨⟨x0, x1, x2, l⟩, by rw [encE_eq, e0, e1, e2, e2', e2'', e2''', e3]⟩
set_option maxRecDepth 100000 in
theorem dec_pat : ∀ (n : Nat) (ds : List D), Sh Try.prog n 30 ds → ∃ e : Pt, ds = encP e := by
  intro n
  induction n using Nat.strongRecOn with
  | _ n ih =>
  intro ds h
  obtain ⟨m, rfl, hl, hf⟩ := sh_struct Try.underlying30 h
  have k1 : Try.prog.cellsOf 3 = 1 := by kernel_rfl
  have k3 : Try.prog.cellsOf 9 = 1 := by kernel_rfl
  have k4 : Try.prog.cellsOf 28 = 1 := by kernel_rfl
  have k5 : Try.prog.cellsOf 27 = 7 := by kernel_rfl
  have k6 : Try.prog.cellsOf 30 = 20 := by kernel_rfl
  rw [k6] at hl
  match ds, hl with
  | [a0, a1, a2, b0, b1, b2, b3, b4, b5, b6, c0, c1, c2, c3, c4, c5, c6, a5, a6, a7], _ =>
    obtain ⟨x0, _, e0⟩ := sh_int Try.underlying3 (show Sh Try.prog m 3 [a0] by simpa [k1] using hf 0 _ rfl)
    obtain ⟨x1, _, e1⟩ := sh_str Try.underlying9 (show Sh Try.prog m 9 [a1] by simpa [k3] using hf 1 _ rfl)
    obtain ⟨x2, _, e2⟩ := sh_int Try.underlying3 (show Sh Try.prog m 3 [a2] by simpa [k1] using hf 2 _ rfl)
    obtain ⟨x3, e3⟩ := dec_expr _ _ (show Sh Try.prog m 27 [b0, b1, b2, b3, b4, b5, b6] by simpa [k5] using hf 3 _ rfl)
    obtain ⟨x4, e4⟩ := dec_expr _ _ (show Sh Try.prog m 27 [c0, c1, c2, c3, c4, c5, c6] by simpa [k5] using hf 4 _ rfl)
    obtain ⟨x5, _, e5⟩ := sh_int Try.underlying3 (show Sh Try.prog m 3 [a5] by simpa [k1] using hf 5 _ rfl)
    obtain ⟨x6, _, e6⟩ := sh_int Try.underlying3 (show Sh Try.prog m 3 [a6] by simpa [k1] using hf 6 _ rfl)
    obtain ⟨m3, rows, hm3, e7, _, hr⟩ := sh_slice Try.underlying28 (show Sh Try.prog m 28 [a7] by simpa [k4] using hf 7 _ rfl)
    obtain ⟨l, rfl⟩ := list_dec encP (fun q => Sh Try.prog m3 30 q) (fun q hq => ih m3 (by omega) q hq) rows hr
    rw [encE_eq] at e3 e4
    simp only [List.cons.injEq, and_true] at e0 e1 e2 e3 e4 e5 e6 e7
    obtain ⟨f0, f1, f2, f3, f4, f5, f6⟩ := e3
    obtain ⟨g0, g1, g2, g3, g4, g5, g6⟩ := e4
    exact ⟨⟨x0, x1, x2, x3, x4, x5, x6, l⟩, by rw [encP_eq, e0, e1, e2, f0, f1, f2, f3, f4, f5, f6, g0, g1, g2, g3, g4, g5, g6, e5, e6, e7]⟩
def simpleL : List TypeId := [3, 2, 4, 9, 22, 47, 24, 27, 25, 30, 28]
theorem simple_ok : simpleL.all (simpleT Try.prog simpleL) = true := by kernel_rfl
section
variable {S : Nat → Nat → Prop} {w : World} {ds : List D} {v : Value}
theorem arg_sl {rows : List (List D)} {A : Option Addr} {n c : Nat} (hv : v = .slice A n c) (h : RDL S w [.sl rows] v.cells.toList) : PV S w (vL rows) v := fun _ _ => by
  obtain ⟨u, hu, hr⟩ := h.2 0 _ rfl
  subst hv
  simp only [Value.cells, List.getElem?_cons_zero, Option.some.injEq] at hu
  subst hu
  exact .one hr
theorem arg_agg {us : Array Value} (hv : v = .agg us) (h : RDL S w ds v.cells.toList) : PV S w (.dat ds) v := fun _ _ => by
  subst hv
  have h2 : RDL S w ds us.toList := h
  have := RV.dat (γ := ‹Nat → Nat›) (T := ‹Nat → Value›) h2
  rwa [Array.toArray_toList] at this
theorem arg_v {x : Value} (h : x.oneCell' = true) : PV S w (.one (.d (.v x))) x := fun _ _ => .one (.v _ h)
theorem argsR_nil : ArgsR S w [] [] := ⟨rfl, fun j y v h => by simp at h⟩
theorem argsR_cons {x : VV} {xs : List VV} {vs : List Value} (h : PV S w x v) (k : ArgsR S w xs vs) : ArgsR S w (x :: xs) (v :: vs) :=
  ⟨by simp [k.1], fun j y u hy hu => by
    cases j with
    | zero => simp only [List.getElem?_cons_zero, Option.some.injEq] at hy hu; subst hy; subst hu; exact h
    | succ j => exact k.2 j y u (by simpa using hy) (by simpa using hu)⟩
end
section
variable {H : Type} {enc : TypeId × Value → H} {w : World} {base b0 : Nat} {spare : Nat → Bool} {held : Bool} {r : Reach} {ts : List TypeId} {ds : List (DataW H)}
set_option maxRecDepth 100000 in
theorem arg_open {t : TypeId} {j : Nat} {v : Value} {d : DataW H} {p : List MemPlace} (hsz : (DataW.weightsEach Try.prog ts ds).all (· ≤ reachBytes) = true) (ht : ts[j]? = some t) (hd : ds[j]? = some d) (hc : simpleL.contains t = true) (h : DataW.Trod enc Try.prog w base spare held t v d p) : ∃ n x, RDL (SW_ w) w x v.cells.toList ∧ Sh Try.prog n t x := by
  obtain ⟨n, hf⟩ := h
  obtain ⟨x, h1, h2⟩ := open_any simpleL simple_ok n t _ _ hc hf (List.all_eq_true.2 fun y hy => List.all_eq_true.1 hsz y (DataW.weights_mem_each ht hd y hy))
  exact ⟨n, x, h1, h2⟩
set_option maxRecDepth 100000 in
theorem arg_strs {j : Nat} {v : Value} {d : DataW H} {p : List MemPlace} (hsz : (DataW.weightsEach Try.prog ts ds).all (· ≤ reachBytes) = true) (ht : ts[j]? = some 47) (hd : ds[j]? = some d)
    (hv : Value.okWide Try.prog w r b0 47 v) (h : DataW.Trod enc Try.prog w base spare held 47 v d p) : ∃ l : List ByteArray, PV (SW_ w) w (vL (l.map encS)) v ∧ l.length * 16 ≤ 140737488351232 ∧ ∀ s ∈ l, s.size ≤ 140737488351232 := by
  obtain ⟨a, n, c, e⟩ := okWide_slice Try.underlying47 hv
  obtain ⟨n, x, h1, h2⟩ := arg_open hsz ht hd rfl h
  obtain ⟨l, rfl, h3, h4⟩ := dec_strs h2
  exact ⟨l, arg_sl e h1, h3, h4⟩
set_option maxRecDepth 100000 in
theorem arg_expr {j : Nat} {v : Value} {d : DataW H} {p : List MemPlace} (hsz : (DataW.weightsEach Try.prog ts ds).all (· ≤ reachBytes) = true) (ht : ts[j]? = some 27) (hd : ds[j]? = some d)
    (hv : Value.okWide Try.prog w r b0 27 v) (h : DataW.Trod enc Try.prog w base spare held 27 v d p) : ∃ e : E, PV (SW_ w) w (.dat (encE e)) v := by
  obtain ⟨cs, e, -⟩ := okWide_struct Try.underlying27 hv
  obtain ⟨n, x, h1, h2⟩ := arg_open hsz ht hd rfl h
  obtain ⟨y, rfl⟩ := dec_expr n x h2
  exact ⟨y, arg_agg e h1⟩
set_option maxRecDepth 100000 in
theorem arg_pat {j : Nat} {v : Value} {d : DataW H} {p : List MemPlace} (hsz : (DataW.weightsEach Try.prog ts ds).all (· ≤ reachBytes) = true) (ht : ts[j]? = some 30) (hd : ds[j]? = some d)
    (hv : Value.okWide Try.prog w r b0 30 v) (h : DataW.Trod enc Try.prog w base spare held 30 v d p) : ∃ e : Pt, PV (SW_ w) w (.dat (encP e)) v := by
  obtain ⟨cs, e, -⟩ := okWide_struct Try.underlying30 hv
  obtain ⟨n, x, h1, h2⟩ := arg_open hsz ht hd rfl h
  obtain ⟨y, rfl⟩ := dec_pat n x h2
  exact ⟨y, arg_agg e h1⟩
end
end Go.Proofs.Ytgdgcloenhnbiaa
