/- The program's data as cells. -/
import Derived.Test.YtgdgcloenhnbiaaW9
import Derived.Test.YtgdgcloenhnbiaaA0
namespace Go.Proofs.Ytgdgcloenhnbiaa
open Go.RowKit
def dI (n : Int) : D := .v (.int .i64 n)
def dS (s : ByteArray) : D := .v (.string s)
def dB (b : Bool) : D := .v (.bool b)
abbrev vI (n : Int) : VV := .one (.d (.v (.int .i64 n)))
abbrev vB (b : Bool) : VV := .one (.d (.v (.bool b)))
abbrev vS (s : ByteArray) : VV := .one (.d (.v (.string s)))
abbrev vL (r : List (List D)) : VV := .one (.d (.sl r))
def encV (v : Val) : List D := [.v (.int .i64 v.kind), .v (.int .i64 v.n), .v (.float .f64 v.f), .v (.string v.s)]
mutual
def encE : E → List D
  | ⟨k, n, v, l⟩ => [.v (.int .i64 k), .v (.string n), .v (.int .i64 v.kind), .v (.int .i64 v.n), .v (.float .f64 v.f), .v (.string v.s), .sl (encEs l)]
def encEs : List E → List (List D)
  | [] => []
  | e :: l => encE e :: encEs l
end
theorem encEs_map (l : List E) : encEs l = l.map encE := by
  induction l with
  | nil => rfl
  | cons e l ih => rw [encEs, ih, List.map_cons]
theorem encE_eq (e : E) : encE e = [.v (.int .i64 e.kind), .v (.string e.name), .v (.int .i64 e.val.kind), .v (.int .i64 e.val.n), .v (.float .f64 e.val.f), .v (.string e.val.s), .sl (e.kids.map encE)] := by
  cases e with | mk k n v l => rw [encE, encEs_map]
theorem encE_len (e : E) : (encE e).length = 7 := by rw [encE_eq]; rfl
theorem sized_E (l : List E) : sized 7 (l.map encE) = true := by
  simp [sized, encE_len]
/-- what holds of an expression if it holds of its kids -/
theorem E.ind {P : E → Prop} (h : ∀ e, (∀ k ∈ e.kids, P k) → P e) : ∀ e, P e
  | ⟨k, n, v, l⟩ => h _ fun x _ => E.ind h x
termination_by e => SizeOf.sizeOf e
decreasing_by
  have := List.sizeOf_lt_of_mem (show x ∈ l from by assumption)
  simp only [E.mk.sizeOf_spec]
  omega
/-- texts -/
def encS (s : ByteArray) : List D := [.v (.string s)]
theorem sized_S (l : List ByteArray) : sized 1 (l.map encS) = true := by simp [sized, encS]
end Go.Proofs.Ytgdgcloenhnbiaa
