/- Plain data of the program: values, expressions, patterns; and what its functions compute on them. No program in sight. -/
import Derived.WalkKit
import Derived.Test.YtjhkehloipmjfaaW9
namespace Go.Proofs.Ytjhkehloipmjfaa
open Go.RowKit
structure Val where
  kind : Int
  n : Int
  f : Nat
  s : ByteArray
structure E where
  kind : Int
  name : ByteArray
  val : Val
  kids : List E
structure Pt where
  kind : Int
  var : ByteArray
  dir : Int
  label : E
  wher : E
  min : Int
  max : Int
  kids : List Pt
def zVal : Val := ⟨0, 0, 0, ⟨#[]⟩⟩
def zE : E := ⟨0, ⟨#[]⟩, zVal, []⟩
/-- == "" -/
def emptyS (s : ByteArray) : Bool := s.toList.isEmpty
/-- v == Value{} -/
def zeroV (v : Val) : Bool := v.kind == 0 && (v.n == 0 && (Op.floatEq .f64 v.f 0 && emptyS v.s))
/-! ### words and labels -/
def letterN (n : Nat) : Bool := decide ((65 ≤ n ∧ n ≤ 90) ∨ (97 ≤ n ∧ n ≤ 122) ∨ n = 95)
def okN (first : Bool) (n : Nat) : Bool := letterN n || (!first && decide (48 ≤ n ∧ n ≤ 57))
def allW : Bool → List UInt8 → Bool
  | _, [] => true
  | b, c :: l => okN b c.toNat && allW false l
def word (s : ByteArray) : Bool := allW true s.data.toList && (!emptyS s && decide (s.size ≤ 40))
/-! ### expressions -/
def depthE : Nat → E → Nat
  | 0, _ => 1
  | n + 1, e => e.kids.foldl (fun d k => max d (depthE n k)) 0 + 1
theorem depthE_zero (e : E) : depthE 0 e = 1 := by rw [depthE]
theorem depthE_succ (n : Nat) (e : E) : depthE (n + 1) e = e.kids.foldl (fun d k => max d (depthE n k)) 0 + 1 := by rw [depthE]
theorem foldl_max_le {α : Type} (f : α → Nat) (B : Nat) : ∀ (l : List α) (d : Nat), d ≤ B → (∀ x ∈ l, f x ≤ B) → l.foldl (fun d k => max d (f k)) d ≤ B
  | [], _, h, _ => h
  | x :: l, d, h, hx => by
    rw [List.foldl_cons]
    exact foldl_max_le f B l _ (Nat.max_le.2 ⟨h, hx x (by simp)⟩) (fun y hy => hx y (by simp [hy]))
theorem depthE_le : ∀ (n : Nat) (e : E), depthE n e ≤ n + 1
  | 0, e => by rw [depthE_zero]; omega
  | n + 1, e => by
    rw [depthE_succ]
    have := foldl_max_le (depthE n) (n + 1) e.kids 0 (by omega) (fun x _ => depthE_le n x)
    omega
def nanBits : Nat := 9221120237041090561
def canon (f : Nat) : Nat := if Op.floatEq .f64 f f = true then f else nanBits
def valueRight (v : Val) : Bool :=
  if v.kind = 0 then v.n == 0 && emptyS v.s && v.f == 0
  else if v.kind = 1 then (v.n == 0 || v.n == 1) && emptyS v.s && v.f == 0
  else if v.kind = 2 then emptyS v.s && v.f == 0
  else if v.kind = 3 then v.n == 0 && emptyS v.s && v.f == canon v.f
  else if v.kind = 4 then v.n == 0 && v.f == 0
  else false
end Go.Proofs.Ytjhkehloipmjfaa
/- The program's data as cells. -/
namespace Go.Proofs.Ytjhkehloipmjfaa
open Go.RowKit
def dI (n : Int) : D := .v (.int .i64 n)
def dB (b : Bool) : D := .v (.bool b)
abbrev vI (n : Int) : VV := .one (.d (.v (.int .i64 n)))
abbrev vB (b : Bool) : VV := .one (.d (.v (.bool b)))
abbrev vS (s : ByteArray) : VV := .one (.d (.v (.string s)))
abbrev vL (r : List (List D)) : VV := .one (.d (.sl r))
def encV (v : Val) : List D := [.v (.int .i64 v.kind), .v (.int .i64 v.n), .v (.float .f64 v.f), .v (.string v.s)]
mutual
def encE : E → List D
  | ⟨k, n, v, l⟩ => [.v (.int .i64 k), .v (.string n), .v (.int .i64 v.kind), .v (.int .i64 v.n), .v (.float .f64 v.f), .v (.string v.s), .sl (encEs l)]
def encEs : List E → List (List D)
  | [] => []
  | e :: l => encE e :: encEs l
end
theorem encEs_map (l : List E) : encEs l = l.map encE := by
  induction l with
  | nil => rfl
  | cons e l ih => rw [encEs, ih, List.map_cons]
theorem encE_eq (e : E) : encE e = [.v (.int .i64 e.kind), .v (.string e.name), .v (.int .i64 e.val.kind), .v (.int .i64 e.val.n), .v (.float .f64 e.val.f), .v (.string e.val.s), .sl (e.kids.map encE)] := by
  cases e with | mk k n v l => rw [encE, encEs_map]
theorem encE_len (e : E) : (encE e).length = 7 := by rw [encE_eq]; rfl
theorem sized_E (l : List E) : sized 7 (l.map encE) = true := by
  simp [sized, encE_len]
/-- what holds of an expression if it holds of its kids -/
theorem E.ind {P : E → Prop} (h : ∀ e, (∀ k ∈ e.kids, P k) → P e) : ∀ e, P e
  | ⟨k, n, v, l⟩ => h _ fun x _ => E.ind h x
termination_by e => SizeOf.sizeOf e
decreasing_by
  have := List.sizeOf_lt_of_mem (show x ∈ l from by assumption)
  simp only [E.mk.sizeOf_spec]
  omega
/-- texts -/
def encS (s : ByteArray) : List D := [.v (.string s)]
theorem sized_S (l : List ByteArray) : sized 1 (l.map encS) = true := by simp [sized, encS]
end Go.Proofs.Ytjhkehloipmjfaa
