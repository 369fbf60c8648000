/- Laws for walking an ordered region operation by operation, each law named by hand. -/
import Derived.Test.YtljkfobgbjnilaaA2
namespace Go.Proofs.Ytljkfobgbjnilaa
open Go.RowKit

section
variable {P : Program} {ops : Array Oper} {rest : List Oper} {o : Oper} {a : Act} {w : World} {Q : Exit → Act → World → Prop}
theorem wl_off (hw : Region.wanted o (yielded ops a.tmps) = false) (h : wpList P ops Q rest (a.put o.dst undef) w) : wpList P ops Q (o :: rest) a w := wpList_skip hw h
theorem wl_val {v : Value} (hw : Region.wanted o (yielded ops a.tmps) = true) (hv : (execOp a.eval o).run P w = .ok (.value v) w) (h : wpList P ops Q rest (a.put o.dst v) w) : wpList P ops Q (o :: rest) a w :=
  wpList_step fun K hK => by
    rw [if_pos hw]
    unfold Oper.wp
    rw [hv]
    exact hK _ _ h
theorem wl_call {R : Ending → World → Prop} {f : FuncId} {args : Array Value} (hw : Region.wanted o (yielded ops a.tmps) = true) (hf : execOp a.eval o = callFunc f args) (he : ∀ (xs : Array Value) (w : World), (callFunc f xs).run P w = .ok (.enter f xs) w)
    (hv : Calls P f args w R) (hR : ∀ e w', R e w' → ∃ v, e = .returned v) (h : ∀ v w', R (.returned v) w' → wpList P ops Q rest (a.put o.dst v) w') : wpList P ops Q (o :: rest) a w :=
  wpList_step fun K hK => by
    rw [if_pos hw]
    unfold Oper.wp
    rw [hf, he]
    refine hv.mono ?_
    intro e w' hRe
    obtain ⟨v, rfl⟩ := hR _ _ hRe
    exact hK _ _ (h v w' hRe)
theorem wl_bool1 {b : Bool} (f : FuncId) {ats : Array TypeId} {x1 : Operand} (v1 : Value) (hw : Region.wanted o (yielded ops a.tmps) = true) (ho : o.op = .call { callee := .value (.func f), args := #[x1], argTypes := ats }) (h1 : a.eval x1 = v1) (he : ∀ (xs : Array Value) (w : World), (callFunc f xs).run P w = .ok (.enter f xs) w)
    (hv : Calls P f #[v1] w (fun e w' => e = .returned (.bool b) ∧ Below w.heap.size w w')) (h : ∀ w', Below w.heap.size w w' → wpList P ops Q rest (a.put o.dst (.bool b)) w') : wpList P ops Q (o :: rest) a w :=
  wl_call (R := fun e w' => e = .returned (.bool b) ∧ Below w.heap.size w w') hw (exec_call ho) he (by simpa [h1] using hv) (fun e w' hr => ⟨_, hr.1⟩) (fun v w' hr => by obtain ⟨h2, h3⟩ := hr; injection h2 with h2; subst h2; exact h w' h3)
theorem wl_bool2 {b : Bool} (f : FuncId) {ats : Array TypeId} {x1 x2 : Operand} (v1 v2 : Value) (hw : Region.wanted o (yielded ops a.tmps) = true) (ho : o.op = .call { callee := .value (.func f), args := #[x1, x2], argTypes := ats }) (h1 : a.eval x1 = v1) (h2 : a.eval x2 = v2) (he : ∀ (xs : Array Value) (w : World), (callFunc f xs).run P w = .ok (.enter f xs) w)
    (hv : Calls P f #[v1, v2] w (fun e w' => e = .returned (.bool b) ∧ Below w.heap.size w w')) (h : ∀ w', Below w.heap.size w w' → wpList P ops Q rest (a.put o.dst (.bool b)) w') : wpList P ops Q (o :: rest) a w :=
  wl_call (R := fun e w' => e = .returned (.bool b) ∧ Below w.heap.size w w') hw (exec_call ho) he (by simpa [h1, h2] using hv) (fun e w' hr => ⟨_, hr.1⟩) (fun v w' hr => by obtain ⟨h2, h3⟩ := hr; injection h2 with h2; subst h2; exact h w' h3)
theorem wl_expr1 {R : World → Ending → World → Prop} (f : FuncId) {ats : Array TypeId} {x1 : Operand} (v1 : Value) (hw : Region.wanted o (yielded ops a.tmps) = true) (ho : o.op = .call { callee := .value (.func f), args := #[x1], argTypes := ats }) (h1 : a.eval x1 = v1) (he : ∀ (xs : Array Value) (w : World), (callFunc f xs).run P w = .ok (.enter f xs) w)
    (hv : Calls P f #[v1] w (R w)) (hR : ∀ e w', R w e w' → ∃ v, e = .returned v) (h : ∀ v w', R w (.returned v) w' → wpList P ops Q rest (a.put o.dst v) w') : wpList P ops Q (o :: rest) a w :=
  wl_call hw (exec_call ho) he (by simpa [h1] using hv) hR h
theorem wl_expr2 {R : World → Ending → World → Prop} (f : FuncId) {ats : Array TypeId} {x1 x2 : Operand} (v1 v2 : Value) (hw : Region.wanted o (yielded ops a.tmps) = true) (ho : o.op = .call { callee := .value (.func f), args := #[x1, x2], argTypes := ats }) (h1 : a.eval x1 = v1) (h2 : a.eval x2 = v2) (he : ∀ (xs : Array Value) (w : World), (callFunc f xs).run P w = .ok (.enter f xs) w)
    (hv : Calls P f #[v1, v2] w (R w)) (hR : ∀ e w', R w e w' → ∃ v, e = .returned v) (h : ∀ v w', R w (.returned v) w' → wpList P ops Q rest (a.put o.dst v) w') : wpList P ops Q (o :: rest) a w :=
  wl_call hw (exec_call ho) he (by simpa [h1, h2] using hv) hR h
theorem wl_load_cells (hw : Region.wanted o (yielded ops a.tmps) = true) (ty : TypeId) (x : Operand) (ho : o.op = .load ty x) (ad : Addr) (hx : a.eval x = .pointer (some ad)) (cs : List Value) (hc : CellsAt w ad 0 cs) (d : TypeDesc) (hu : P.underlying ty = some d)
    (hd : (match d with | .struct _ | .array _ _ => true | _ => false) = true) (n : Nat) (hi : (P.info? ty).map (·.size) = some n) (hn : cs.length = n) (h : wpList P ops Q rest (a.put o.dst (.agg cs.toArray)) w) : wpList P ops Q (o :: rest) a w :=
  wl_val hw (by
    unfold execOp
    simp only [ho, hx, Instr.loadAt, Instr.sureAddr, Sem.run_bind, Sem.run_pure, Result.andThen_ok, run_load_cells ty ad cs hc d hu hd (hn ▸ hi)]) h
end
/-- The same behind a word of its own, so that no step of the walk looks through it. -/
structure WL (P : Program) (ops : Array Oper) (Q : Exit → Act → World → Prop) (l : List Oper) (a : Act) (w : World) : Prop where
  out : wpList P ops Q l a w
section
variable {P : Program} {ops : Array Oper} {rest : List Oper} {o : Oper} {a : Act} {w : World} {Q : Exit → Act → World → Prop}
theorem wl_region {id : Nat} {l : List Oper} (h : WL P l.toArray Q l a w) : (Code.region id l.toArray false).wp P Q a w := wp_region_lit h.out
theorem ws_nil (h : Q .normal a w) : WL P ops Q [] a w := ⟨h⟩
theorem ws_off (hw : Region.wanted o (yielded ops a.tmps) = false) (h : WL P ops Q rest (a.put o.dst undef) w) : WL P ops Q (o :: rest) a w := ⟨wl_off hw h.out⟩
theorem ws_val {v : Value} (hw : Region.wanted o (yielded ops a.tmps) = true) (hv : (execOp a.eval o).run P w = .ok (.value v) w) (h : WL P ops Q rest (a.put o.dst v) w) : WL P ops Q (o :: rest) a w := ⟨wl_val hw hv h.out⟩
theorem ws_bool1 {b : Bool} (f : FuncId) {ats : Array TypeId} {x1 : Operand} (v1 : Value) (hw : Region.wanted o (yielded ops a.tmps) = true) (ho : o.op = .call { callee := .value (.func f), args := #[x1], argTypes := ats }) (h1 : a.eval x1 = v1) (he : ∀ (xs : Array Value) (w : World), (callFunc f xs).run P w = .ok (.enter f xs) w)
    (hv : Calls P f #[v1] w (RBool b w)) (h : ∀ w', Below w.heap.size w w' → WL P ops Q rest (a.put o.dst (.bool b)) w') : WL P ops Q (o :: rest) a w := ⟨wl_bool1 f v1 hw ho h1 he hv fun w' hb => (h w' hb).out⟩
theorem ws_bool2 {b : Bool} (f : FuncId) {ats : Array TypeId} {x1 x2 : Operand} (v1 v2 : Value) (hw : Region.wanted o (yielded ops a.tmps) = true) (ho : o.op = .call { callee := .value (.func f), args := #[x1, x2], argTypes := ats }) (h1 : a.eval x1 = v1) (h2 : a.eval x2 = v2) (he : ∀ (xs : Array Value) (w : World), (callFunc f xs).run P w = .ok (.enter f xs) w)
    (hv : Calls P f #[v1, v2] w (RBool b w)) (h : ∀ w', Below w.heap.size w w' → WL P ops Q rest (a.put o.dst (.bool b)) w') : WL P ops Q (o :: rest) a w := ⟨wl_bool2 f v1 v2 hw ho h1 h2 he hv fun w' hb => (h w' hb).out⟩
theorem ws_load_cells (hw : Region.wanted o (yielded ops a.tmps) = true) (ty : TypeId) (x : Operand) (ho : o.op = .load ty x) (ad : Addr) (hx : a.eval x = .pointer (some ad)) (cs : List Value) (hc : CellsAt w ad 0 cs) (d : TypeDesc) (hu : P.underlying ty = some d)
    (hd : (match d with | .struct _ | .array _ _ => true | _ => false) = true) (n : Nat) (hi : (P.info? ty).map (·.size) = some n) (hn : cs.length = n) (h : WL P ops Q rest (a.put o.dst (.agg cs.toArray)) w) : WL P ops Q (o :: rest) a w := ⟨wl_load_cells hw ty x ho ad hx cs hc d hu hd n hi hn h.out⟩
theorem ws_call {R : Ending → World → Prop} {f : FuncId} {args : Array Value} (hw : Region.wanted o (yielded ops a.tmps) = true) (hf : execOp a.eval o = callFunc f args) (he : ∀ (xs : Array Value) (w : World), (callFunc f xs).run P w = .ok (.enter f xs) w)
    (hv : Calls P f args w R) (hR : ∀ e w', R e w' → ∃ v, e = .returned v) (h : ∀ v w', R (.returned v) w' → WL P ops Q rest (a.put o.dst v) w') : WL P ops Q (o :: rest) a w := ⟨wl_call hw hf he hv hR fun v w' hr => (h v w' hr).out⟩
end
end Go.Proofs.Ytljkfobgbjnilaa
