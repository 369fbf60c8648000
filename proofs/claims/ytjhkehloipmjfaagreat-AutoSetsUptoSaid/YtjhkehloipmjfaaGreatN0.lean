/- Plain data of the program: values, expressions, patterns; and what its functions compute on them. No program in sight. -/
import Derived.WalkKit
namespace Go.Proofs.YtjhkehloipmjfaaGreat
open Go.RowKit
structure Val where
  kind : Int
  n : Int
  f : Nat
  s : ByteArray
structure E where
  kind : Int
  name : ByteArray
  val : Val
  kids : List E
structure Pt where
  kind : Int
  var : ByteArray
  dir : Int
  label : E
  wher : E
  min : Int
  max : Int
  kids : List Pt
def zVal : Val := ⟨0, 0, 0, ⟨#[]⟩⟩
def zE : E := ⟨0, ⟨#[]⟩, zVal, []⟩
/-- == "" -/
def emptyS (s : ByteArray) : Bool := s.toList.isEmpty
/-- v == Value{} -/
def zeroV (v : Val) : Bool := v.kind == 0 && (v.n == 0 && (Op.floatEq .f64 v.f 0 && emptyS v.s))
/-- v has nothing, -0 counts as nothing -/
def bareV (v : Val) : Bool := v.kind == 0 && v.n == 0 && emptyS v.s && Op.floatEq .f64 v.f 0
/-! ### words and labels -/
def letterN (n : Nat) : Bool := decide ((65 ≤ n ∧ n ≤ 90) ∨ (97 ≤ n ∧ n ≤ 122) ∨ n = 95)
def okN (first : Bool) (n : Nat) : Bool := letterN n || (!first && decide (48 ≤ n ∧ n ≤ 57))
def allW : Bool → List UInt8 → Bool
  | _, [] => true
  | b, c :: l => okN b c.toNat && allW false l
def word (s : ByteArray) : Bool := allW true s.data.toList && (!emptyS s && decide (s.size ≤ 40))
/-- how many kids a kind of term has, and whether it is named -/
def arity (k : Int) : Option (Nat × Bool) :=
  if k = 4 then some (0, true) else if k = 5 then some (0, false) else if k = 6 then some (1, false) else if k = 7 then some (2, false) else if k = 8 then some (2, false) else none
def term : Nat → E → Bool
  | 0, _ => false
  | n + 1, e => match arity e.kind with
    | none => false
    | some (k, named) => e.kids.length == k && bareV e.val && (named == word e.name) && (named || emptyS e.name) && e.kids.all (term n)
def labelRight (e : E) : Bool := if e.kind = 0 then emptyS e.name && bareV e.val && e.kids.isEmpty else term 50 e
/-! ### expressions -/
def depthE : Nat → E → Nat
  | 0, _ => 1
  | n + 1, e => e.kids.foldl (fun d k => max d (depthE n k)) 0 + 1
theorem depthE_zero (e : E) : depthE 0 e = 1 := by rw [depthE]
theorem depthE_succ (n : Nat) (e : E) : depthE (n + 1) e = e.kids.foldl (fun d k => max d (depthE n k)) 0 + 1 := by rw [depthE]
theorem foldl_max_le {α : Type} (f : α → Nat) (B : Nat) : ∀ (l : List α) (d : Nat), d ≤ B → (∀ x ∈ l, f x ≤ B) → l.foldl (fun d k => max d (f k)) d ≤ B
  | [], _, h, _ => h
  | x :: l, d, h, hx => by
    rw [List.foldl_cons]
    exact foldl_max_le f B l _ (Nat.max_le.2 ⟨h, hx x (by simp)⟩) (fun y hy => hx y (by simp [hy]))
theorem depthE_le : ∀ (n : Nat) (e : E), depthE n e ≤ n + 1
  | 0, e => by rw [depthE_zero]; omega
  | n + 1, e => by
    rw [depthE_succ]
    have := foldl_max_le (depthE n) (n + 1) e.kids 0 (by omega) (fun x _ => depthE_le n x)
    omega
def nanBits : Nat := 9221120237041090561
def canon (f : Nat) : Nat := if Op.floatEq .f64 f f = true then f else nanBits
def valueRight (v : Val) : Bool :=
  if v.kind = 0 then v.n == 0 && emptyS v.s && v.f == 0
  else if v.kind = 1 then (v.n == 0 || v.n == 1) && emptyS v.s && v.f == 0
  else if v.kind = 2 then emptyS v.s && v.f == 0
  else if v.kind = 3 then v.n == 0 && emptyS v.s && v.f == canon v.f
  else if v.kind = 4 then v.n == 0 && v.f == 0
  else false
end Go.Proofs.YtjhkehloipmjfaaGreat
/- Plain data of patterns, and what the program computes on them: folds, depth, size, lengths, what is right, made normal. No program in sight. -/
namespace Go.Proofs.YtjhkehloipmjfaaGreat
open Go.RowKit
def zPt : Pt := ⟨0, ⟨#[]⟩, 0, zE, zE, 0, 0, []⟩
mutual
def foldP {α : Type} (f : Pt → List α → α) : Pt → α
  | ⟨k, v, d, l, w, mn, mx, ks⟩ => f ⟨k, v, d, l, w, mn, mx, ks⟩ (foldPs f ks)
def foldPs {α : Type} (f : Pt → List α → α) : List Pt → List α
  | [] => []
  | p :: l => foldP f p :: foldPs f l
end
theorem foldPs_map {α : Type} (f : Pt → List α → α) (l : List Pt) : foldPs f l = l.map (foldP f) := by
  induction l with
  | nil => rfl
  | cons p l ih => rw [foldPs, ih, List.map_cons]
theorem foldP_eq {α : Type} (f : Pt → List α → α) (p : Pt) : foldP f p = f p (p.kids.map (foldP f)) := by
  cases p with | mk k v d l w mn mx ks => rw [foldP, foldPs_map]
mutual
def foldE {α : Type} (f : E → List α → α) : E → α
  | ⟨k, n, v, l⟩ => f ⟨k, n, v, l⟩ (foldEs f l)
def foldEs {α : Type} (f : E → List α → α) : List E → List α
  | [] => []
  | p :: l => foldE f p :: foldEs f l
end
theorem foldEs_map {α : Type} (f : E → List α → α) (l : List E) : foldEs f l = l.map (foldE f) := by
  induction l with
  | nil => rfl
  | cons p l ih => rw [foldEs, ih, List.map_cons]
theorem foldE_eq {α : Type} (f : E → List α → α) (e : E) : foldE f e = f e (e.kids.map (foldE f)) := by
  cases e with | mk k n v l => rw [foldE, foldEs_map]
/-- what holds of a pattern if it holds of its kids -/
theorem Pt.ind {P : Pt → Prop} (h : ∀ p, (∀ k ∈ p.kids, P k) → P p) : ∀ p, P p
  | ⟨k, v, d, l, w, mn, mx, ks⟩ => h _ fun x _ => Pt.ind h x
termination_by p => SizeOf.sizeOf p
decreasing_by
  have := List.sizeOf_lt_of_mem (show x ∈ ks from by assumption)
  simp only [Pt.mk.sizeOf_spec]
  omega
/-! ### expressions -/
/-- how many kids an operator has -/
def eqL (s t : ByteArray) : Bool := s.toList == t.toList
def opKids (s : ByteArray) : Int :=
  if eqL s ⟨#[61]⟩ || (eqL s ⟨#[60, 62]⟩ || (eqL s ⟨#[60]⟩ || (eqL s ⟨#[60, 61]⟩ || (eqL s ⟨#[62]⟩ || (eqL s ⟨#[62, 61]⟩ || (eqL s ⟨#[97, 110, 100]⟩ || (eqL s ⟨#[111, 114]⟩ || (eqL s ⟨#[43]⟩ || (eqL s ⟨#[45]⟩ || (eqL s ⟨#[42]⟩)))))))))) then 2
  else if eqL s ⟨#[110, 111, 116]⟩ || eqL s ⟨#[105, 115, 110, 117, 108, 108]⟩ then 1 else 0
def rightE : E → Bool := foldE fun e ks =>
  if e.kind = 1 then emptyS e.name && e.kids.isEmpty && valueRight e.val
  else if e.kind = 2 then !emptyS e.name && e.kids.isEmpty && zeroV e.val
  else if e.kind = 3 then zeroV e.val && decide (opKids e.name > 0) && decide (opKids e.name = (e.kids.length : Int)) && ks.all id
  else false
theorem rightE_eq (e : E) : rightE e = if e.kind = 1 then emptyS e.name && e.kids.isEmpty && valueRight e.val
  else if e.kind = 2 then !emptyS e.name && e.kids.isEmpty && zeroV e.val
  else if e.kind = 3 then zeroV e.val && decide (opKids e.name > 0) && decide (opKids e.name = (e.kids.length : Int)) && e.kids.all rightE
  else false := by
  unfold rightE
  rw [foldE_eq]
  simp only [List.all_map]
  rfl
def exprRight (e : E) : Bool := decide (depthE 50 e ≤ 50) && rightE e
/-- parts, counted as the program counts: with wrapping sums -/
def countE : E → Int := foldE fun _ ks => ks.foldl (fun n k => IntKind.i64.wrap (n + k)) 1
theorem countE_eq (e : E) : countE e = e.kids.foldl (fun n k => IntKind.i64.wrap (n + countE k)) 1 := by
  unfold countE; rw [foldE_eq, List.foldl_map]
/-! ### patterns -/
def depthP : Nat → Pt → Nat
  | 0, _ => 1
  | n + 1, p => p.kids.foldl (fun d k => max d (depthP n k)) 0 + 1
theorem depthP_zero (p : Pt) : depthP 0 p = 1 := by rw [depthP]
theorem depthP_succ (n : Nat) (p : Pt) : depthP (n + 1) p = p.kids.foldl (fun d k => max d (depthP n k)) 0 + 1 := by rw [depthP]
theorem depthP_le : ∀ (n : Nat) (p : Pt), depthP n p ≤ n + 1
  | 0, p => by rw [depthP_zero]; omega
  | n + 1, p => by
    rw [depthP_succ]
    have := foldl_max_le (depthP n) (n + 1) p.kids 0 (by omega) (fun x _ => depthP_le n x)
    omega
def noneE (e : E) : Bool := e.kind == 0 && (emptyS e.name && (e.kids.isEmpty && zeroV e.val))
def elemOK (p : Pt) : Bool := p.kids.isEmpty && (noneE p.label || labelRight p.label) && (noneE p.wher || exprRight p.wher)
def plainP (p : Pt) : Bool := p.min == 0 && p.max == 0
def bareP (p : Pt) : Bool := emptyS p.var && (p.dir == 0 && (noneE p.label && noneE p.wher))
def quantOK (p : Pt) : Bool := decide (p.kids.length = 1) && (decide (0 ≤ p.min) && decide (p.min ≤ 20)) && (p.max == -1 || (decide (1 ≤ p.max) && decide (p.min ≤ p.max) && decide (p.max ≤ 20)))
/-- right, but for its depth -/
def rightP : Pt → Bool := foldP fun p ks =>
  if p.kind = 1 then plainP p && p.dir == 0 && elemOK p
  else if p.kind = 2 then plainP p && (decide (1 ≤ p.dir) && decide (p.dir ≤ 7)) && elemOK p
  else if p.kind = 3 ∨ p.kind = 4 then plainP p && !p.kids.isEmpty && bareP p && ks.all id
  else if p.kind = 5 then quantOK p && bareP p && ks.all id
  else false
theorem rightP_eq (p : Pt) : rightP p = if p.kind = 1 then plainP p && p.dir == 0 && elemOK p
  else if p.kind = 2 then plainP p && (decide (1 ≤ p.dir) && decide (p.dir ≤ 7)) && elemOK p
  else if p.kind = 3 ∨ p.kind = 4 then plainP p && !p.kids.isEmpty && bareP p && p.kids.all rightP
  else if p.kind = 5 then quantOK p && bareP p && p.kids.all rightP
  else false := by
  unfold rightP
  rw [foldP_eq]
  simp only [List.all_map]
  rfl
def countP : Pt → Int := foldP fun p ks => ks.foldl (fun n k => IntKind.i64.wrap (n + k)) (IntKind.i64.wrap (IntKind.i64.wrap (1 + countE p.label) + countE p.wher))
theorem countP_eq (p : Pt) : countP p = p.kids.foldl (fun n k => IntKind.i64.wrap (n + countP k)) (IntKind.i64.wrap (IntKind.i64.wrap (1 + countE p.label) + countE p.wher)) := by
  unfold countP; rw [foldP_eq, List.foldl_map]
/-- a quantifier's copies -/
def timesP (p : Pt) : Nat := if p.max < 0 then (p.min + 1).toNat else p.max.toNat
def sizeN : Pt → Nat := foldP fun p ks => 1 + (ks.map fun s => if p.kind = 5 then (s + 1) * timesP p else s).sum
theorem sizeN_eq (p : Pt) : sizeN p = 1 + (p.kids.map fun k => if p.kind = 5 then (sizeN k + 1) * timesP p else sizeN k).sum := by
  unfold sizeN; rw [foldP_eq, List.map_map]; rfl
/-! ### made normal -/
def groupP (k : Int) (l : List Pt) : Pt := ⟨k, ⟨#[]⟩, 0, zE, zE, 0, 0, l⟩
def quantP (p : Pt) (most : Int) : Pt := ⟨5, ⟨#[]⟩, 0, zE, zE, 0, most, [p]⟩
def openP (k : Int) (p : Pt) : List Pt := if p.kind = k then p.kids else [p]
def joinP (k : Int) (l : List Pt) : Pt := match l.flatMap (openP k) with
  | [p] => p
  | kids => groupP k kids
/-- at most n + 1 times -/
def tailP (p : Pt) : Nat → Pt
  | 0 => quantP p 1
  | n + 1 => quantP (joinP 3 [p, tailP p n]) 1
def moreP (p : Pt) (b : Pt) : List Pt := if p.max < 0 then [quantP b (-1)] else if p.min < p.max then [tailP b (p.max - p.min - 1).toNat] else []
def normal : Pt → Pt := foldP fun p ks =>
  if p.kind = 3 ∨ p.kind = 4 then joinP p.kind ks
  else if p.kind = 5 then joinP 3 (List.replicate p.min.toNat (ks.headD zPt) ++ moreP p (ks.headD zPt))
  else p
theorem normal_eq (p : Pt) : normal p = if p.kind = 3 ∨ p.kind = 4 then joinP p.kind (p.kids.map normal)
  else if p.kind = 5 then joinP 3 (List.replicate p.min.toNat ((p.kids.map normal).headD zPt) ++ moreP p ((p.kids.map normal).headD zPt))
  else p := by
  unfold normal; rw [foldP_eq]
def isElem (p : Pt) : Bool := p.kind == 1 || p.kind == 2
def elems : Pt → List Pt := foldP fun p ks => if isElem p = true then [p] else ks.flatten
theorem elems_eq (p : Pt) : elems p = if isElem p = true then [p] else p.kids.flatMap elems := by
  unfold elems; rw [foldP_eq]; rfl
end Go.Proofs.YtjhkehloipmjfaaGreat
/- Plain laws of patterns that are made normal: how many pieces, which elements, how groups go into each other. No program in sight. -/
namespace Go.Proofs.YtjhkehloipmjfaaGreat
open Go.RowKit
def nodesP : Pt → Nat := foldP fun _ ks => 1 + ks.sum
theorem nodesP_eq (p : Pt) : nodesP p = 1 + (p.kids.map nodesP).sum := by unfold nodesP; rw [foldP_eq]
theorem sum_flatMap {α β : Type} (f : α → List β) (g : β → Nat) : ∀ l : List α, ((l.flatMap f).map g).sum = (l.map fun x => ((f x).map g).sum).sum
  | [] => rfl
  | x :: l => by rw [List.flatMap_cons, List.map_append, List.sum_append, sum_flatMap f g l, List.map_cons, List.sum_cons]
theorem sum_le {α : Type} (f g : α → Nat) : ∀ l : List α, (∀ x ∈ l, f x ≤ g x) → (l.map f).sum ≤ (l.map g).sum
  | [], _ => Nat.le_refl _
  | x :: l, h => by
    rw [List.map_cons, List.map_cons, List.sum_cons, List.sum_cons]
    exact Nat.add_le_add (h x List.mem_cons_self) (sum_le f g l fun y hy => h y (List.mem_cons_of_mem _ hy))
theorem mem_sum {α : Type} (f : α → Nat) : ∀ (l : List α) (x : α), x ∈ l → f x ≤ (l.map f).sum
  | y :: l, x, h => by
    rw [List.map_cons, List.sum_cons]
    rcases List.mem_cons.1 h with rfl | h
    · omega
    · have := mem_sum f l x h; omega
theorem length_le_sum {α : Type} (f : α → Nat) : ∀ (l : List α), (∀ x ∈ l, 1 ≤ f x) → l.length ≤ (l.map f).sum
  | [], _ => Nat.le_refl _
  | x :: l, h => by
    rw [List.map_cons, List.sum_cons, List.length_cons]
    have := h x List.mem_cons_self
    have := length_le_sum f l fun y hy => h y (List.mem_cons_of_mem _ hy)
    omega
theorem nodesP_pos (p : Pt) : 1 ≤ nodesP p := by rw [nodesP_eq]; omega
theorem nodes_open (k : Int) (p : Pt) : ((openP k p).map nodesP).sum ≤ nodesP p := by
  unfold openP
  split
  · rw [nodesP_eq p]; omega
  · simp
theorem nodes_opens (k : Int) (l : List Pt) : ((l.flatMap (openP k)).map nodesP).sum ≤ (l.map nodesP).sum := by
  rw [sum_flatMap]; exact sum_le _ _ l fun p _ => nodes_open k p
theorem joinP_eq (k : Int) (l : List Pt) : (∃ p, l.flatMap (openP k) = [p] ∧ joinP k l = p) ∨ ((l.flatMap (openP k)).length ≠ 1 ∧ joinP k l = groupP k (l.flatMap (openP k))) := by
  unfold joinP
  cases h : l.flatMap (openP k) with
  | nil => exact .inr ⟨by simp, rfl⟩
  | cons p r => cases r with
    | nil => exact .inl ⟨p, rfl, rfl⟩
    | cons q r => exact .inr ⟨by simp, rfl⟩
theorem nodes_group (k : Int) (l : List Pt) : nodesP (groupP k l) = 1 + (l.map nodesP).sum := nodesP_eq _
theorem nodes_quant (b : Pt) (m : Int) : nodesP (quantP b m) = 1 + nodesP b := by rw [nodesP_eq]; simp [quantP]
theorem nodes_join (k : Int) (l : List Pt) : nodesP (joinP k l) ≤ 1 + (l.map nodesP).sum := by
  have h := nodes_opens k l
  rcases joinP_eq k l with ⟨p, h1, h2⟩ | ⟨_, h2⟩
  · rw [h1] at h; rw [h2]; simp at h; omega
  · rw [h2, nodes_group]; omega
theorem nodes_tail (b : Pt) : ∀ n : Nat, nodesP (tailP b n) ≤ (n + 1) * (nodesP b + 2)
  | 0 => by rw [tailP, nodes_quant]; omega
  | n + 1 => by
    rw [tailP, nodes_quant]
    have h1 := nodes_join 3 [b, tailP b n]
    have h2 := nodes_tail b n
    simp only [List.map_cons, List.map_nil, List.sum_cons, List.sum_nil] at h1
    have : (n + 1 + 1) * (nodesP b + 2) = (n + 1) * (nodesP b + 2) + (nodesP b + 2) := by rw [Nat.add_mul (n + 1) 1, Nat.one_mul]
    omega
theorem sum_replicate (n m : Nat) : (List.replicate n m).sum = n * m := by simp
/-! ### what a right pattern is -/
theorem right_kids {p : Pt} (h : rightP p = true) : ∀ k ∈ p.kids, rightP k = true := by
  rw [rightP_eq] at h
  intro k hk
  split at h
  · simp only [Bool.and_eq_true, elemOK, List.isEmpty_iff] at h
    rw [h.2.1.1] at hk; cases hk
  · split at h
    · simp only [Bool.and_eq_true, elemOK, List.isEmpty_iff] at h
      rw [h.2.1.1] at hk; cases hk
    · split at h
      · simp only [Bool.and_eq_true] at h
        exact List.all_eq_true.1 h.2 k hk
      · split at h
        · simp only [Bool.and_eq_true] at h
          exact List.all_eq_true.1 h.2 k hk
        · cases h
theorem right_elem {p : Pt} (h : rightP p = true) (hk : p.kind = 1 ∨ p.kind = 2) : p.kids = [] := by
  rw [rightP_eq] at h
  rcases hk with hk | hk
  · rw [if_pos hk] at h
    simp only [Bool.and_eq_true, elemOK, List.isEmpty_iff] at h
    exact h.2.1.1
  · rw [if_neg (by omega), if_pos hk] at h
    simp only [Bool.and_eq_true, elemOK, List.isEmpty_iff] at h
    exact h.2.1.1
theorem right_kind {p : Pt} (h : rightP p = true) : p.kind = 1 ∨ p.kind = 2 ∨ p.kind = 3 ∨ p.kind = 4 ∨ p.kind = 5 := by
  rw [rightP_eq] at h
  by_cases h1 : p.kind = 1; · exact .inl h1
  by_cases h2 : p.kind = 2; · exact .inr (.inl h2)
  by_cases h3 : p.kind = 3; · exact .inr (.inr (.inl h3))
  by_cases h4 : p.kind = 4; · exact .inr (.inr (.inr (.inl h4)))
  by_cases h5 : p.kind = 5; · exact .inr (.inr (.inr (.inr h5)))
  rw [if_neg h1, if_neg h2, if_neg (by omega), if_neg h5] at h; cases h
theorem right_group {p : Pt} (h : rightP p = true) (hk : p.kind = 3 ∨ p.kind = 4) : p.kids ≠ [] ∧ p.min = 0 ∧ p.max = 0 := by
  rw [rightP_eq, if_neg (by omega), if_neg (by omega), if_pos hk] at h
  simp only [Bool.and_eq_true, plainP, beq_iff_eq, Bool.not_eq_true', List.isEmpty_eq_false_iff] at h
  exact ⟨h.1.1.2, h.1.1.1⟩
theorem right_quant {p : Pt} (h : rightP p = true) (hk : p.kind = 5) : (∃ k, p.kids = [k] ∧ rightP k = true) ∧ 0 ≤ p.min ∧ p.min ≤ 20 ∧ (p.max = -1 ∨ (1 ≤ p.max ∧ p.min ≤ p.max ∧ p.max ≤ 20)) := by
  have hr := right_kids h
  rw [rightP_eq, if_neg (by omega), if_neg (by omega), if_neg (by omega), if_pos hk] at h
  simp only [Bool.and_eq_true, quantOK, beq_iff_eq, Bool.or_eq_true, decide_eq_true_eq] at h
  obtain ⟨⟨⟨⟨h1, h2, h3⟩, h4⟩, _⟩, _⟩ := h
  obtain ⟨k, hk⟩ := List.length_eq_one_iff.1 h1
  exact ⟨⟨k, hk, hr k (by rw [hk]; exact List.mem_cons_self)⟩, h2, h3, by omega⟩
theorem sizeN_pos (p : Pt) : 1 ≤ sizeN p := by rw [sizeN_eq]; omega
theorem sizeN_group {p : Pt} (hk : p.kind ≠ 5) : sizeN p = 1 + (p.kids.map sizeN).sum := by
  rw [sizeN_eq]
  congr 2
  refine List.map_congr_left fun k _ => ?_
  rw [if_neg hk]
theorem sizeN_quant {p k : Pt} (hk : p.kind = 5) (h : p.kids = [k]) : sizeN p = 1 + (sizeN k + 1) * timesP p := by
  rw [sizeN_eq, h]; simp [hk]
theorem size_kid {p k : Pt} (h : rightP p = true) (hk : k ∈ p.kids) : sizeN k < sizeN p := by
  by_cases h5 : p.kind = 5
  · obtain ⟨⟨q, hq, _⟩, h1, h2, h3⟩ := right_quant h h5
    rw [hq] at hk
    obtain rfl := List.mem_singleton.1 hk
    rw [sizeN_quant h5 hq]
    have : 1 ≤ timesP p := by unfold timesP; split <;> omega
    have := Nat.le_mul_of_pos_right (sizeN k + 1) this
    omega
  · rw [sizeN_group h5]
    have := mem_sum sizeN p.kids k hk
    omega
theorem kids_lt {p : Pt} (h : rightP p = true) : p.kids.length < sizeN p := by
  by_cases h5 : p.kind = 5
  · obtain ⟨⟨q, hq, _⟩, h1, h2, h3⟩ := right_quant h h5
    have := size_kid h (k := q) (by rw [hq]; exact List.mem_cons_self)
    have := sizeN_pos q
    rw [hq]; simp only [List.length_singleton]; omega
  · rw [sizeN_group h5]
    have := length_le_sum sizeN p.kids fun x _ => sizeN_pos x
    omega
theorem normal_elem {p : Pt} (hk : p.kind = 1 ∨ p.kind = 2) : normal p = p := by rw [normal_eq, if_neg (by omega), if_neg (by omega)]
theorem normal_group {p : Pt} (hk : p.kind = 3 ∨ p.kind = 4) : normal p = joinP p.kind (p.kids.map normal) := by rw [normal_eq, if_pos hk]
theorem normal_quant {p k : Pt} (hk : p.kind = 5) (h : p.kids = [k]) : normal p = joinP 3 (List.replicate p.min.toNat (normal k) ++ moreP p (normal k)) := by
  rw [normal_eq, if_neg (by omega), if_pos hk, h]; rfl
theorem nodes_more {p : Pt} (b : Pt) (h1 : 0 ≤ p.min) (h3 : p.max = -1 ∨ (1 ≤ p.max ∧ p.min ≤ p.max ∧ p.max ≤ 20)) : p.min.toNat * nodesP b + ((moreP p b).map nodesP).sum ≤ timesP p * (nodesP b + 2) := by
  unfold moreP timesP
  split
  · simp only [List.map_cons, List.map_nil, List.sum_cons, List.sum_nil, nodes_quant]
    rw [show (p.min + 1).toNat = p.min.toNat + 1 by omega, Nat.add_mul, Nat.mul_add]
    omega
  · split
    · simp only [List.map_cons, List.map_nil, List.sum_cons, List.sum_nil, Nat.add_zero]
      have h4 := nodes_tail b (p.max - p.min - 1).toNat
      have e : p.max.toNat = p.min.toNat + ((p.max - p.min - 1).toNat + 1) := by omega
      rw [e, Nat.add_mul]
      have : p.min.toNat * nodesP b ≤ p.min.toNat * (nodesP b + 2) := Nat.mul_le_mul_left _ (by omega)
      omega
    · simp only [List.map_nil, List.sum_nil, Nat.add_zero]
      exact Nat.mul_le_mul (by omega) (by omega)
theorem nodes_normal : ∀ p : Pt, rightP p = true → nodesP (normal p) + 1 ≤ 2 * sizeN p := Pt.ind fun p ih h => by
  have hr := right_kids h
  rcases right_kind h with hk | hk | hk | hk | hk
  · rw [normal_elem (.inl hk), nodesP_eq, right_elem h (.inl hk)]; have := sizeN_pos p; simp; omega
  · rw [normal_elem (.inr hk), nodesP_eq, right_elem h (.inr hk)]; have := sizeN_pos p; simp; omega
  rotate_left 2
  · obtain ⟨⟨k, hkk, hkr⟩, h1, h2, h3⟩ := right_quant h hk
    rw [normal_quant hk hkk, sizeN_quant hk hkk]
    have h4 := ih k (by rw [hkk]; exact List.mem_cons_self) hkr
    have h5 := nodes_join 3 (List.replicate p.min.toNat (normal k) ++ moreP p (normal k))
    have h6 := nodes_more (p := p) (normal k) h1 h3
    rw [List.map_append, List.sum_append, List.map_replicate, sum_replicate] at h5
    have h7 : timesP p * (nodesP (normal k) + 2) ≤ 2 * ((sizeN k + 1) * timesP p) := by
      rw [Nat.mul_comm (sizeN k + 1), ← Nat.mul_assoc, Nat.mul_comm 2, Nat.mul_assoc]
      exact Nat.mul_le_mul_left _ (by omega)
    omega
  all_goals
    rw [normal_group (by omega), sizeN_group (by omega)]
    have h5 := nodes_join p.kind (p.kids.map normal)
    rw [List.map_map] at h5
    have h6 := sum_le (nodesP ∘ normal) (fun k => 2 * sizeN k) p.kids fun k hk => by have := ih k hk (hr k hk); simp only [Function.comp]; omega
    have h7 : (p.kids.map fun k => 2 * sizeN k).sum = 2 * (p.kids.map sizeN).sum := by
      clear h5 h6 ih hr h hk
      induction p.kids with
      | nil => rfl
      | cons x l ih => simp only [List.map_cons, List.sum_cons, ih]; omega
    omega
/-! ### groups in groups -/
inductive Flat : Pt → Prop
  | mk (p : Pt) (h1 : p.kind = 3 ∨ p.kind = 4 → ∀ c ∈ p.kids, c.kind ≠ p.kind) (h2 : ∀ c ∈ p.kids, Flat c) : Flat p
theorem Flat.open_ {k : Int} (hk : k = 3 ∨ k = 4) {p : Pt} (h : Flat p) : ∀ c ∈ openP k p, c.kind ≠ k ∧ Flat c := by
  cases h with
  | mk p h1 h2 =>
    intro c hc
    unfold openP at hc
    split at hc
    · rename_i e; exact ⟨fun hck => h1 (by omega) c hc (by omega), h2 c hc⟩
    · rename_i e; obtain rfl := List.mem_singleton.1 hc; exact ⟨e, .mk _ h1 h2⟩
theorem Flat.opens {k : Int} (hk : k = 3 ∨ k = 4) {l : List Pt} (h : ∀ x ∈ l, Flat x) : ∀ c ∈ l.flatMap (openP k), c.kind ≠ k ∧ Flat c := fun c hc => by
  obtain ⟨x, hx, hcx⟩ := List.mem_flatMap.1 hc
  exact (h x hx).open_ hk c hcx
theorem Flat.join {k : Int} (hk : k = 3 ∨ k = 4) {l : List Pt} (h : ∀ x ∈ l, Flat x) : Flat (joinP k l) := by
  have ho := Flat.opens hk h
  rcases joinP_eq k l with ⟨p, h1, h2⟩ | ⟨_, h2⟩
  · rw [h2]; exact (ho p (by rw [h1]; exact List.mem_cons_self)).2
  · rw [h2]; exact .mk _ (fun _ c hc => (ho c hc).1) fun c hc => (ho c hc).2
theorem Flat.quant {b : Pt} (m : Int) (h : Flat b) : Flat (quantP b m) := .mk _ (fun hk => by simp [quantP] at hk) fun c hc => by obtain rfl := List.mem_singleton.1 hc; exact h
theorem Flat.tail {b : Pt} (h : Flat b) : ∀ n : Nat, Flat (tailP b n)
  | 0 => h.quant 1
  | n + 1 => Flat.quant 1 (Flat.join (.inl rfl) fun x hx => by
    rcases List.mem_cons.1 hx with rfl | hx
    · exact h
    · obtain rfl := List.mem_singleton.1 hx; exact Flat.tail h n)
theorem Flat.more {p b : Pt} (h : Flat b) : ∀ x ∈ moreP p b, Flat x := fun x hx => by
  unfold moreP at hx
  split at hx
  · obtain rfl := List.mem_singleton.1 hx; exact h.quant _
  · split at hx
    · obtain rfl := List.mem_singleton.1 hx; exact h.tail _
    · cases hx
end Go.Proofs.YtjhkehloipmjfaaGreat
/- Plain laws of the lengths of patterns. No program in sight. -/
namespace Go.Proofs.YtjhkehloipmjfaaGreat
open Go.RowKit
/-- a least and a greatest length; none: without end -/
structure Sp where
  low : Nat
  high : Option Nat
deriving DecidableEq
def sat (n : Nat) : Nat := min n 1000000
theorem sat_le (n : Nat) : sat n ≤ 1000000 := Nat.min_le_right _ _
theorem sat_id {n : Nat} (h : n ≤ 1000000) : sat n = n := Nat.min_eq_left h
def andH : Option Nat → Option Nat → Option Nat
  | some a, some b => some (sat (a + b))
  | _, _ => none
def orH : Option Nat → Option Nat → Option Nat
  | some a, some b => some (max a b)
  | _, _ => none
def andS (s t : Sp) : Sp := ⟨sat (s.low + t.low), andH s.high t.high⟩
def orS (s t : Sp) : Sp := ⟨min s.low t.low, orH s.high t.high⟩
def timesS (s : Sp) (least most : Int) : Sp := ⟨sat (s.low * least.toNat), if most < 0 then none else s.high.map fun h => sat (h * most.toNat)⟩
def unitS : Sp := ⟨0, some 0⟩
def OkS (s : Sp) : Prop := s.low ≤ 1000000 ∧ ∀ h, s.high = some h → h ≤ 1000000
theorem ok_unit : OkS unitS := ⟨by decide, fun h e => by cases e; decide⟩
theorem ok_and (s t : Sp) : OkS (andS s t) := ⟨sat_le _, fun h e => by
  unfold andS andH at e
  simp only at e
  split at e
  · injection e with e; rw [← e]; exact sat_le _
  · cases e⟩
theorem ok_or {s t : Sp} (h1 : OkS s) (h2 : OkS t) : OkS (orS s t) := ⟨Nat.le_trans (Nat.min_le_left _ _) h1.1, fun h e => by
  unfold orS orH at e
  simp only at e
  split at e
  · rename_i a b ha hb
    injection e with e
    rw [← e]
    exact Nat.max_le.2 ⟨h1.2 a ha, h2.2 b hb⟩
  · cases e⟩
theorem ok_times (s : Sp) (l m : Int) : OkS (timesS s l m) := ⟨sat_le _, fun h e => by
  unfold timesS at e
  simp only at e
  split at e
  · cases e
  · rw [Option.map_eq_some_iff] at e
    obtain ⟨a, _, e⟩ := e
    rw [← e]; exact sat_le _⟩
theorem and_assoc' (s t u : Sp) : andS (andS s t) u = andS s (andS t u) := by
  unfold andS
  simp only [Sp.mk.injEq]
  refine ⟨by unfold sat; omega, ?_⟩
  cases s.high <;> cases t.high <;> cases u.high <;> simp only [andH, Option.some.injEq]
  unfold sat; omega
theorem unit_and {s : Sp} (h : OkS s) : andS unitS s = s := by
  obtain ⟨l, hi⟩ := s
  unfold andS unitS
  simp only [Sp.mk.injEq, Nat.zero_add]
  refine ⟨sat_id h.1, ?_⟩
  cases hi with
  | none => rfl
  | some a => simp only [andH, Nat.zero_add]; rw [sat_id (h.2 a rfl)]
theorem and_unit {s : Sp} (h : OkS s) : andS s unitS = s := by
  obtain ⟨l, hi⟩ := s
  unfold andS unitS
  simp only [Sp.mk.injEq, Nat.add_zero]
  refine ⟨sat_id h.1, ?_⟩
  cases hi with
  | none => rfl
  | some a => simp only [andH, Nat.add_zero]; rw [sat_id (h.2 a rfl)]
def spanS (l : List Sp) : Sp := l.foldl andS unitS
theorem foldl_and : ∀ (l : List Sp) (s : Sp), OkS s → l.foldl andS s = andS s (spanS l)
  | [], s, h => (and_unit h).symm
  | t :: l, s, h => by
    unfold spanS
    rw [List.foldl_cons, List.foldl_cons, foldl_and l _ (ok_and s t), foldl_and l _ (ok_and unitS t), ← and_assoc', ← and_assoc', and_unit h]
theorem ok_seq (l : List Sp) : OkS (spanS l) := by
  cases l with
  | nil => exact ok_unit
  | cons t l => unfold spanS; rw [List.foldl_cons, foldl_and l _ (ok_and unitS t)]; exact ok_and _ _
theorem seq_cons {t : Sp} (l : List Sp) (h : OkS t) : spanS (t :: l) = andS t (spanS l) := by
  rw [spanS, List.foldl_cons, unit_and h, foldl_and l t h]
def altS : List Sp → Sp
  | [] => unitS
  | s :: l => l.foldl orS s
/-- lengths -/
def lenP : Pt → Sp := foldP fun p ks =>
  if p.kind = 1 then unitS else if p.kind = 2 then ⟨1, some 1⟩ else if p.kind = 5 then timesS (ks.headD unitS) p.min p.max else if p.kind = 4 then altS ks else spanS ks
theorem lenP_eq (p : Pt) : lenP p = if p.kind = 1 then unitS else if p.kind = 2 then ⟨1, some 1⟩ else if p.kind = 5 then timesS ((p.kids.map lenP).headD unitS) p.min p.max else if p.kind = 4 then altS (p.kids.map lenP) else spanS (p.kids.map lenP) := by
  unfold lenP; rw [foldP_eq]
theorem ok_alt {l : List Sp} (h : ∀ s ∈ l, OkS s) : OkS (altS l) := by
  cases l with
  | nil => exact ok_unit
  | cons s l =>
    have : ∀ (l : List Sp) (s : Sp), OkS s → (∀ t ∈ l, OkS t) → OkS (l.foldl orS s) := fun l => by
      induction l with
      | nil => intro s h _; exact h
      | cons t l ih => intro s h1 h2; exact ih _ (ok_or h1 (h2 t List.mem_cons_self)) fun u hu => h2 u (List.mem_cons_of_mem _ hu)
    exact this l s (h s List.mem_cons_self) fun t ht => h t (List.mem_cons_of_mem _ ht)
theorem ok_len : ∀ p : Pt, OkS (lenP p) := Pt.ind fun p ih => by
  rw [lenP_eq]
  split
  · exact ok_unit
  · split
    · exact ⟨by decide, fun h e => by cases e; decide⟩
    · split
      · exact ok_times _ _ _
      · split
        · exact ok_alt fun s hs => by obtain ⟨k, hk, rfl⟩ := List.mem_map.1 hs; exact ih k hk
        · exact ok_seq _
theorem len_seq {p : Pt} (hk : p.kind = 3) : lenP p = spanS (p.kids.map lenP) := by rw [lenP_eq, if_neg (by omega), if_neg (by omega), if_neg (by omega), if_neg (by omega)]
theorem len_alt {p : Pt} (hk : p.kind = 4) : lenP p = altS (p.kids.map lenP) := by rw [lenP_eq, if_neg (by omega), if_neg (by omega), if_neg (by omega), if_pos hk]
theorem len_quant {p k : Pt} (hk : p.kind = 5) (h : p.kids = [k]) : lenP p = timesS (lenP k) p.min p.max := by rw [lenP_eq, if_neg (by omega), if_neg (by omega), if_pos hk, h]; rfl
end Go.Proofs.YtjhkehloipmjfaaGreat
