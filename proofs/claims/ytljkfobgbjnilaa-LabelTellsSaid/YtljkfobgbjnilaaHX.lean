/- Laws for calls that hand back an expression, in an ordered region. -/
import Derived.Test.YtljkfobgbjnilaaA3
import Derived.Test.YtljkfobgbjnilaaH9
namespace Go.Proofs.Ytljkfobgbjnilaa
open Go.RowKit

theorem word_is {s : ByteArray} {b : Bool} (h : word s = b) (w : World) : Calls Try.prog 17 #[.string s] w (RBool b w) := h ▸ word_calls s w
theorem right_is {e : E} {b : Bool} (h : labelRight e = b) (w : World) {cs : List Value} (r : RW w e cs) : Calls Try.prog 19 #[.agg cs.toArray] w (RBool b w) := h ▸ labelRight_calls r w (Below.refl _ _)
theorem has_is {l : List ByteArray} {e : E} {b : Bool} (h : hasL l e = b) (w : World) {cs : List Value} (r : RW w e cs) {A : Option Addr} {c : Nat} (s : SW w l A c) : Calls Try.prog 13 #[.slice A l.length c, .agg cs.toArray] w (RBool b w) := h ▸ has_calls r s w (Below.refl _ _)

section
variable {ops : Array Oper} {rest : List Oper} {o : Oper} {a : Act} {w : World} {Q : Exit → Act → World → Prop}
theorem ws_expr1 {q : E} (f : FuncId) {ats : Array TypeId} {x1 : Operand} (v1 : Value) (hw : Region.wanted o (yielded ops a.tmps) = true) (ho : o.op = .call { callee := .value (.func f), args := #[x1], argTypes := ats }) (h1 : a.eval x1 = v1) (he : ∀ (xs : Array Value) (w : World), (callFunc f xs).run Try.prog w = .ok (.enter f xs) w)
    (hv : Calls Try.prog f #[v1] w (RExpr q w)) (h : ∀ cs w', RW w' q cs → Below w.heap.size w w' → WL Try.prog ops Q rest (a.put o.dst (.agg cs.toArray)) w') : WL Try.prog ops Q (o :: rest) a w :=
  ws_call (args := #[v1]) hw (by rw [exec_call ho]; simp [h1]) he hv (fun e w' ⟨cs, h, _⟩ => ⟨_, h⟩) (fun v w' ⟨cs, h2, hr, hb⟩ => by injection h2 with h2; subst h2; exact h cs w' hr hb)
theorem ws_expr2 {q : E} (f : FuncId) {ats : Array TypeId} {x1 x2 : Operand} (v1 v2 : Value) (hw : Region.wanted o (yielded ops a.tmps) = true) (ho : o.op = .call { callee := .value (.func f), args := #[x1, x2], argTypes := ats }) (h1 : a.eval x1 = v1) (h2 : a.eval x2 = v2) (he : ∀ (xs : Array Value) (w : World), (callFunc f xs).run Try.prog w = .ok (.enter f xs) w)
    (hv : Calls Try.prog f #[v1, v2] w (RExpr q w)) (h : ∀ cs w', RW w' q cs → Below w.heap.size w w' → WL Try.prog ops Q rest (a.put o.dst (.agg cs.toArray)) w') : WL Try.prog ops Q (o :: rest) a w :=
  ws_call (args := #[v1, v2]) hw (by rw [exec_call ho]; simp [h1, h2]) he hv (fun e w' ⟨cs, h, _⟩ => ⟨_, h⟩) (fun v w' ⟨cs, h2, hr, hb⟩ => by injection h2 with h2; subst h2; exact h cs w' hr hb)
end
end Go.Proofs.Ytljkfobgbjnilaa
