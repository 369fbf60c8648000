/- Plain data of patterns, and what the program computes on them: folds, depth, size, lengths, what is right, made normal. No program in sight. -/
import Derived.Test.YtgdgcloenhnbiaaA0
namespace Go.Proofs.Ytgdgcloenhnbiaa
open Go.RowKit
def zPt : Pt := ⟨0, ⟨#[]⟩, 0, zE, zE, 0, 0, []⟩
mutual
def foldP {α : Type} (f : Pt → List α → α) : Pt → α
  | ⟨k, v, d, l, w, mn, mx, ks⟩ => f ⟨k, v, d, l, w, mn, mx, ks⟩ (foldPs f ks)
def foldPs {α : Type} (f : Pt → List α → α) : List Pt → List α
  | [] => []
  | p :: l => foldP f p :: foldPs f l
end
theorem foldPs_map {α : Type} (f : Pt → List α → α) (l : List Pt) : foldPs f l = l.map (foldP f) := by
  induction l with
  | nil => rfl
  | cons p l ih => rw [foldPs, ih, List.map_cons]
theorem foldP_eq {α : Type} (f : Pt → List α → α) (p : Pt) : foldP f p = f p (p.kids.map (foldP f)) := by
  cases p with | mk k v d l w mn mx ks => rw [foldP, foldPs_map]
mutual
def foldE {α : Type} (f : E → List α → α) : E → α
  | ⟨k, n, v, l⟩ => f ⟨k, n, v, l⟩ (foldEs f l)
def foldEs {α : Type} (f : E → List α → α) : List E → List α
  | [] => []
  | p :: l => foldE f p :: foldEs f l
end
theorem foldEs_map {α : Type} (f : E → List α → α) (l : List E) : foldEs f l = l.map (foldE f) := by
  induction l with
  | nil => rfl
  | cons p l ih => rw [foldEs, ih, List.map_cons]
theorem foldE_eq {α : Type} (f : E → List α → α) (e : E) : foldE f e = f e (e.kids.map (foldE f)) := by
  cases e with | mk k n v l => rw [foldE, foldEs_map]
/-- what holds of a pattern if it holds of its kids -/
theorem Pt.ind {P : Pt → Prop} (h : ∀ p, (∀ k ∈ p.kids, P k) → P p) : ∀ p, P p
  | ⟨k, v, d, l, w, mn, mx, ks⟩ => h _ fun x _ => Pt.ind h x
termination_by p => SizeOf.sizeOf p
decreasing_by
  have := List.sizeOf_lt_of_mem (show x ∈ ks from by assumption)
  simp only [Pt.mk.sizeOf_spec]
  omega

/-! ### expressions -/
/-- how many kids an operator has -/
def eqL (s t : ByteArray) : Bool := s.toList == t.toList
def opKids (s : ByteArray) : Int :=
  if eqL s ⟨#[61]⟩ || (eqL s ⟨#[60, 62]⟩ || (eqL s ⟨#[60]⟩ || (eqL s ⟨#[60, 61]⟩ || (eqL s ⟨#[62]⟩ || (eqL s ⟨#[62, 61]⟩ || (eqL s ⟨#[97, 110, 100]⟩ || (eqL s ⟨#[111, 114]⟩ || (eqL s ⟨#[43]⟩ || (eqL s ⟨#[45]⟩ || (eqL s ⟨#[42]⟩)))))))))) then 2
  else if eqL s ⟨#[110, 111, 116]⟩ || eqL s ⟨#[105, 115, 110, 117, 108, 108]⟩ then 1 else 0
def rightE : E → Bool := foldE fun e ks =>
  if e.kind = 1 then emptyS e.name && e.kids.isEmpty && valueRight e.val
  else if e.kind = 2 then !emptyS e.name && e.kids.isEmpty && zeroV e.val
  else if e.kind = 3 then zeroV e.val && decide (opKids e.name > 0) && decide (opKids e.name = (e.kids.length : Int)) && ks.all id
  else false
theorem rightE_eq (e : E) : rightE e = if e.kind = 1 then emptyS e.name && e.kids.isEmpty && valueRight e.val
  else if e.kind = 2 then !emptyS e.name && e.kids.isEmpty && zeroV e.val
  else if e.kind = 3 then zeroV e.val && decide (opKids e.name > 0) && decide (opKids e.name = (e.kids.length : Int)) && e.kids.all rightE
  else false := by
  unfold rightE
  rw [foldE_eq]
  simp only [List.all_map]
  rfl
def exprRight (e : E) : Bool := decide (depthE 50 e ≤ 50) && rightE e
/-- parts, counted as the program counts: with wrapping sums -/
def countE : E → Int := foldE fun _ ks => ks.foldl (fun n k => IntKind.i64.wrap (n + k)) 1
theorem countE_eq (e : E) : countE e = e.kids.foldl (fun n k => IntKind.i64.wrap (n + countE k)) 1 := by
  unfold countE; rw [foldE_eq, List.foldl_map]

/-! ### patterns -/
def depthP : Nat → Pt → Nat
  | 0, _ => 1
  | n + 1, p => p.kids.foldl (fun d k => max d (depthP n k)) 0 + 1
theorem depthP_zero (p : Pt) : depthP 0 p = 1 := by rw [depthP]
theorem depthP_succ (n : Nat) (p : Pt) : depthP (n + 1) p = p.kids.foldl (fun d k => max d (depthP n k)) 0 + 1 := by rw [depthP]
theorem depthP_le : ∀ (n : Nat) (p : Pt), depthP n p ≤ n + 1
  | 0, p => by rw [depthP_zero]; omega
  | n + 1, p => by
    rw [depthP_succ]
    have := foldl_max_le (depthP n) (n + 1) p.kids 0 (by omega) (fun x _ => depthP_le n x)
    omega
def noneE (e : E) : Bool := e.kind == 0 && (emptyS e.name && (e.kids.isEmpty && zeroV e.val))
def elemOK (p : Pt) : Bool := p.kids.isEmpty && (noneE p.label || labelRight p.label) && (noneE p.wher || exprRight p.wher)
def plainP (p : Pt) : Bool := p.min == 0 && p.max == 0
def bareP (p : Pt) : Bool := emptyS p.var && (p.dir == 0 && (noneE p.label && noneE p.wher))
def quantOK (p : Pt) : Bool := decide (p.kids.length = 1) && (decide (0 ≤ p.min) && decide (p.min ≤ 20)) && (p.max == -1 || (decide (1 ≤ p.max) && decide (p.min ≤ p.max) && decide (p.max ≤ 20)))
/-- right, but for its depth -/
def rightP : Pt → Bool := foldP fun p ks =>
  if p.kind = 1 then plainP p && p.dir == 0 && elemOK p
  else if p.kind = 2 then plainP p && (decide (1 ≤ p.dir) && decide (p.dir ≤ 7)) && elemOK p
  else if p.kind = 3 ∨ p.kind = 4 then plainP p && !p.kids.isEmpty && bareP p && ks.all id
  else if p.kind = 5 then quantOK p && bareP p && ks.all id
  else false
theorem rightP_eq (p : Pt) : rightP p = if p.kind = 1 then plainP p && p.dir == 0 && elemOK p
  else if p.kind = 2 then plainP p && (decide (1 ≤ p.dir) && decide (p.dir ≤ 7)) && elemOK p
  else if p.kind = 3 ∨ p.kind = 4 then plainP p && !p.kids.isEmpty && bareP p && p.kids.all rightP
  else if p.kind = 5 then quantOK p && bareP p && p.kids.all rightP
  else false := by
  unfold rightP
  rw [foldP_eq]
  simp only [List.all_map]
  rfl
def patRight (p : Pt) : Bool := decide (depthP 50 p ≤ 50) && rightP p
def countP : Pt → Int := foldP fun p ks => ks.foldl (fun n k => IntKind.i64.wrap (n + k)) (IntKind.i64.wrap (IntKind.i64.wrap (1 + countE p.label) + countE p.wher))
theorem countP_eq (p : Pt) : countP p = p.kids.foldl (fun n k => IntKind.i64.wrap (n + countP k)) (IntKind.i64.wrap (IntKind.i64.wrap (1 + countE p.label) + countE p.wher)) := by
  unfold countP; rw [foldP_eq, List.foldl_map]
/-- a quantifier's copies -/
def timesP (p : Pt) : Nat := if p.max < 0 then (p.min + 1).toNat else p.max.toNat
def sizeN : Pt → Nat := foldP fun p ks => 1 + (ks.map fun s => if p.kind = 5 then (s + 1) * timesP p else s).sum
theorem sizeN_eq (p : Pt) : sizeN p = 1 + (p.kids.map fun k => if p.kind = 5 then (sizeN k + 1) * timesP p else sizeN k).sum := by
  unfold sizeN; rw [foldP_eq, List.map_map]; rfl
/-! ### made normal -/
def groupP (k : Int) (l : List Pt) : Pt := ⟨k, ⟨#[]⟩, 0, zE, zE, 0, 0, l⟩
def quantP (p : Pt) (most : Int) : Pt := ⟨5, ⟨#[]⟩, 0, zE, zE, 0, most, [p]⟩
def openP (k : Int) (p : Pt) : List Pt := if p.kind = k then p.kids else [p]
def joinP (k : Int) (l : List Pt) : Pt := match l.flatMap (openP k) with
  | [p] => p
  | kids => groupP k kids
/-- at most n + 1 times -/
def tailP (p : Pt) : Nat → Pt
  | 0 => quantP p 1
  | n + 1 => quantP (joinP 3 [p, tailP p n]) 1
def moreP (p : Pt) (b : Pt) : List Pt := if p.max < 0 then [quantP b (-1)] else if p.min < p.max then [tailP b (p.max - p.min - 1).toNat] else []
def normal : Pt → Pt := foldP fun p ks =>
  if p.kind = 3 ∨ p.kind = 4 then joinP p.kind ks
  else if p.kind = 5 then joinP 3 (List.replicate p.min.toNat (ks.headD zPt) ++ moreP p (ks.headD zPt))
  else p
theorem normal_eq (p : Pt) : normal p = if p.kind = 3 ∨ p.kind = 4 then joinP p.kind (p.kids.map normal)
  else if p.kind = 5 then joinP 3 (List.replicate p.min.toNat ((p.kids.map normal).headD zPt) ++ moreP p ((p.kids.map normal).headD zPt))
  else p := by
  unfold normal; rw [foldP_eq]
def isElem (p : Pt) : Bool := p.kind == 1 || p.kind == 2
def elems : Pt → List Pt := foldP fun p ks => if isElem p = true then [p] else ks.flatten
theorem elems_eq (p : Pt) : elems p = if isElem p = true then [p] else p.kids.flatMap elems := by
  unfold elems; rw [foldP_eq]; rfl
end Go.Proofs.Ytgdgcloenhnbiaa
