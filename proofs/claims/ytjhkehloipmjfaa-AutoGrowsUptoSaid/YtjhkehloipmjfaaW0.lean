/- Abstract data and memory: what a function's own values say, with no addresses; and when a world bears them. -/
import Derived.Below
import Derived.Orders
import Derived.Great.FillDense
import Derived.WalkKit
import Derived.KernelRfl
namespace Go.Proofs.Ytjhkehloipmjfaa
open Go.RowKit
/-- Data, one cell: a plain value; a slice's rows; a pointer to cells that stay; a closure over cells that stay. -/
inductive D where
  | v (x : Value)
  | sl (rows : List (List D))
  | pi (cs : List D)
  | fn (f : FuncId) (caps : List (List D))
instance : Inhabited D := ⟨.v undef⟩
/-- The cells that are settled (S) bear the data. -/
inductive RD (S : Nat → Nat → Prop) (w : World) : D → Value → Prop
  | v (x : Value) (h : x.oneCell' = true) : RD S w (.v x) x
  | sl (rows : List (List D)) (A : Option Addr) (c sz : Nat) (vs : Nat → Nat → Value)
      (cap : rows.length ≤ c) (lim : rows.length ≤ 281474976710656) (nil : A = none → rows = [])
      (row : ∀ (i : Nat) (q : List D), rows[i]? = some q → q.length = sz)
      (val : ∀ (i : Nat) (q : List D), rows[i]? = some q → ∀ (j : Nat) (x : D), q[j]? = some x → RD S w x (vs i j))
      (spot : ∀ a, A = some a → 0 < rows.length → a.spot = none)
      (mem : ∀ a, A = some a → ∀ i, i < rows.length → ∀ j, j < sz → S a.block (a.off + (i * sz + j)) ∧ w.cell? ⟨a.block, a.off + (i * sz + j), none⟩ = some (vs i j)) :
      RD S w (.sl rows) (.slice A rows.length c)
  | pi (cs : List D) (a : Addr) (vs : Nat → Value) (spot : a.spot = none)
      (val : ∀ (j : Nat) (x : D), cs[j]? = some x → RD S w x (vs j))
      (mem : ∀ j, j < cs.length → S a.block (a.off + j) ∧ w.cell? ⟨a.block, a.off + j, none⟩ = some (vs j)) : RD S w (.pi cs) (.pointer (some a))
  | fn (f : FuncId) (caps : List (List D)) (us : List Value) (len : us.length = caps.length)
      (val : ∀ (i : Nat) (q : List D) (u : Value), caps[i]? = some q → us[i]? = some u → RD S w (.pi q) u) : RD S w (.fn f caps) (.func (.func f) #[] us.toArray)
/-- what is settled stays -/
def Kp (S : Nat → Nat → Prop) (w w' : World) : Prop := ∀ b o x, S b o → w.cell? ⟨b, o, none⟩ = some x → w'.cell? ⟨b, o, none⟩ = some x
section
variable {S S' : Nat → Nat → Prop} {w w' : World}
theorem Kp.refl : Kp S w w := fun _ _ _ _ h => h
theorem Kp.trans {w2 : World} (h : Kp S w w') (k : Kp S w' w2) : Kp S w w2 := fun b o x hs hc => k b o x hs (h b o x hs hc)
theorem RD.mono (hS : ∀ b o, S b o → S' b o) (hk : Kp S w w') {d : D} {v : Value} (h : RD S w d v) : RD S' w' d v := by
  induction h with
  | v x h => exact .v x h
  | sl rows A c sz vs cap lim nil row val spot mem ih => exact .sl rows A c sz vs cap lim nil row ih spot fun a ha i hi j hj => ⟨hS _ _ (mem a ha i hi j hj).1, hk _ _ _ (mem a ha i hi j hj).1 (mem a ha i hi j hj).2⟩
  | pi cs a vs spot val mem ih => exact .pi cs a vs spot ih fun j hj => ⟨hS _ _ (mem j hj).1, hk _ _ _ (mem j hj).1 (mem j hj).2⟩
  | fn f caps us len val ih => exact .fn f caps us len ih
theorem RD.one {d : D} {v : Value} (h : RD S w d v) : v.oneCell' = true := by
  cases h <;> first | assumption | rfl
end
/-- data cells, pointwise -/
def RDL (S : Nat → Nat → Prop) (w : World) (ds : List D) (us : List Value) : Prop := us.length = ds.length ∧ ∀ (j : Nat) (x : D), ds[j]? = some x → ∃ u, us[j]? = some u ∧ RD S w x u
section
variable {S S' : Nat → Nat → Prop} {w w' : World}
theorem RDL.mono (hS : ∀ b o, S b o → S' b o) (hk : Kp S w w') {ds : List D} {us : List Value} (h : RDL S w ds us) : RDL S' w' ds us :=
  ⟨h.1, fun j x hx => let ⟨u, hu, hr⟩ := h.2 j x hx; ⟨u, hu, hr.mono hS hk⟩⟩
theorem RDL.nil : RDL S w [] [] := ⟨rfl, fun j x h => by simp at h⟩
theorem RDL.cons {d : D} {ds : List D} {u : Value} {us : List Value} (h : RD S w d u) (k : RDL S w ds us) : RDL S w (d :: ds) (u :: us) :=
  ⟨by simp [k.1], fun j x hx => by
    cases j with
    | zero => simp only [List.getElem?_cons_zero, Option.some.injEq] at hx; subst hx; exact ⟨u, rfl, h⟩
    | succ j => exact k.2 j x (by simpa using hx)⟩
theorem RDL.app {d1 d2 : List D} {u1 u2 : List Value} (h : RDL S w d1 u1) (k : RDL S w d2 u2) : RDL S w (d1 ++ d2) (u1 ++ u2) :=
  ⟨by simp [h.1, k.1], fun j x hx => by
    by_cases hj : j < d1.length
    · rw [List.getElem?_append_left hj] at hx
      rw [List.getElem?_append_left (by rw [h.1]; exact hj)]
      exact h.2 j x hx
    · rw [List.getElem?_append_right (by omega)] at hx
      rw [List.getElem?_append_right (by rw [h.1]; omega), h.1]
      exact k.2 _ x hx⟩
theorem RDL.take {ds : List D} {us : List Value} (h : RDL S w ds us) (n : Nat) : RDL S w (ds.take n) (us.take n) :=
  ⟨by simp [h.1], fun j x hx => by
    rw [List.getElem?_take] at hx ⊢
    split at hx
    · rename_i hj; simp only [if_pos hj]; exact h.2 j x hx
    · cases hx⟩
theorem RDL.drop {ds : List D} {us : List Value} (h : RDL S w ds us) (n : Nat) : RDL S w (ds.drop n) (us.drop n) :=
  ⟨by simp [h.1], fun j x hx => by rw [List.getElem?_drop] at hx ⊢; exact h.2 _ x hx⟩
theorem RDL.all1 {ds : List D} {us : List Value} (h : RDL S w ds us) : ∀ u ∈ us, u.oneCell' = true := by
  intro u hu
  obtain ⟨j, hj, rfl⟩ := List.mem_iff_getElem.1 hu
  have hd : ds[j]? = some (ds[j]'(by rw [← h.1]; exact hj)) := List.getElem?_eq_getElem _
  obtain ⟨u', hu', hr⟩ := h.2 j _ hd
  rw [List.getElem?_eq_getElem hj] at hu'
  injection hu' with hu'
  rw [hu']; exact hr.one
end
/-- One cell, with what is the function's own: a slice that may be appended to, a pointer to a variable, a closure over variables; a window of a row of its own, a pointer into an element of it. -/
inductive C where
  | d (x : D)
  | own (k : Nat) (rows : List (List D))
  | po (k o : Nat)
  | mr (k : Nat)
  | que (k sz tot : Nat) (rows : List (List D))
  | fn (f : FuncId) (cap : List Nat)
  | win (k lo n c sz : Nat)
  | pe (k i o sz : Nat)
  | any
instance : Inhabited C := ⟨.d default⟩
/-- What a slot holds. -/
inductive VV where
  | one (c : C)
  | dat (cs : List D)
  | tup (l : List VV)
  | ag (cs : List C)
  | junk
instance : Inhabited VV := ⟨.junk⟩
/-- What the function's own memory holds. -/
inductive Ob where
  | box (ty : TypeId) (cs : List D)
  | cell (ty : TypeId) (c : C)
  | tok (e : TypeId) (sz : Nat)
  | arr (e : TypeId) (sz : Nat) (rows : List (List D))
  | obj (ty : TypeId) (cs : List C)
  | mp (es : List (Value × VV))
  | junk
instance : Inhabited Ob := ⟨.junk⟩
/-- a slice without its first p elements -/
def tailV (p sz : Nat) : Value → Value
  | .slice (some a) n c => .slice (some { a with off := a.off + p * sz }) (n - p) (c - p)
  | v => v
def RC (γ : Nat → Nat) (T : Nat → Value) (S : Nat → Nat → Prop) (w : World) : C → Value → Prop
  | .d x, v => RD S w x v
  | .own k rows, v => RD S w (.sl rows) v ∧ T k = v
  | .po k o, v => v = .pointer (some ⟨γ k, o, none⟩)
  | .mr k, v => v = .map (some (γ k))
  | .que k sz tot rows, v => ∃ pre : List (List D), pre.length + rows.length ≤ tot ∧ pre.all (fun q => Nat.beq q.length sz) = true ∧ RD S w (.sl (pre ++ rows)) (T k) ∧ (v = tailV pre.length sz (T k) ∨ (rows = [] ∧ ∃ a, v = .slice (some a) 0 0))
  | .fn f cap, v => v = .func (.func f) #[] (cap.map fun k => Value.pointer (some ⟨γ k, 0, none⟩)).toArray
  | .win k lo n c sz, v => v = .slice (some ⟨γ k, lo * sz, none⟩) n c
  | .pe k i o sz, v => v = .pointer (some ⟨γ k, i * sz + o, none⟩)
  | .any, v => v.oneCell' = true
inductive RV (γ : Nat → Nat) (T : Nat → Value) (S : Nat → Nat → Prop) (w : World) : VV → Value → Prop
  | one {c : C} {v : Value} (h : RC γ T S w c v) : RV γ T S w (.one c) v
  | dat {cs : List D} {us : List Value} (h : RDL S w cs us) : RV γ T S w (.dat cs) (.agg us.toArray)
  | tup (l : List VV) (us : List Value) (len : us.length = l.length) (val : ∀ (j : Nat) (x : VV) (u : Value), l[j]? = some x → us[j]? = some u → RV γ T S w x u) : RV γ T S w (.tup l) (.tuple us.toArray)
  | ag (cs : List C) (us : List Value) (len : us.length = cs.length) (val : ∀ (j : Nat) (c : C), cs[j]? = some c → ∃ u, us[j]? = some u ∧ RC γ T S w c u) : RV γ T S w (.ag cs) (.agg us.toArray)
  | junk (v : Value) : RV γ T S w .junk v
abbrev Fr := List (Nat × VV)
abbrev Obs := List (Nat × Ob)
def look {α : Type} : List (Nat × α) → Nat → Option α
  | [], _ => none
  | (k, x) :: l, t => if k = t then some x else look l t
theorem look_nil {α : Type} (t : Nat) : look ([] : List (Nat × α)) t = none := rfl
theorem look_cons {α : Type} (k : Nat) (x : α) (l : List (Nat × α)) (t : Nat) : look ((k, x) :: l) t = if k = t then some x else look l t := rfl
theorem look_map {α : Type} (f : α → α) (l : List (Nat × α)) (t : Nat) : look (l.map fun p => (p.1, f p.2)) t = (look l t).map f := by
  induction l with
  | nil => rfl
  | cons p l ih => simp only [List.map_cons, look, ih]; split <;> rfl
/-- all but what hangs on key k -/
def stripC (k : Nat) : C → Option C
  | .d x => some (.d x)
  | .own k' r => if k' = k then some (.d (.sl r)) else some (.own k' r)
  | .po k' o => if k' = k then none else some (.po k' o)
  | .mr k' => if k' = k then none else some (.mr k')
  | .que k' sz tot r => if k' = k then some (.d (.sl r)) else some (.que k' sz tot r)
  | .fn f cap => if cap.contains k then none else some (.fn f cap)
  | .win k' lo n c sz => if k' = k then none else some (.win k' lo n c sz)
  | .pe k' i o sz => if k' = k then none else some (.pe k' i o sz)
  | .any => some .any
/-- .. a cell of which nothing more is said, if it hangs on the key -/
def stripA (k : Nat) (c : C) : C := match stripC k c with | some c' => c' | none => .any
def stripL (k : Nat) (cs : List C) : List C := cs.map (stripA k)
theorem stripL_nil (k : Nat) : stripL k [] = [] := rfl
theorem stripL_cons (k : Nat) (c : C) (cs : List C) : stripL k (c :: cs) = stripA k c :: stripL k cs := rfl
theorem stripL_d (k : Nat) (ds : List D) : stripL k (ds.map C.d) = ds.map C.d := by
  unfold stripL; rw [List.map_map]; rfl
theorem stripL_app (k : Nat) (a b : List C) : stripL k (a ++ b) = stripL k a ++ stripL k b := List.map_append
def plainV : VV → Bool
  | .one (.d _) => true
  | .dat _ => true
  | _ => false
def stripV (k : Nat) : VV → VV
  | .one c => match stripC k c with | some c' => .one c' | none => .junk
  | .dat cs => .dat cs
  | .tup l => if l.all plainV = true then .tup l else .junk
  | .ag cs => .ag (stripL k cs)
  | .junk => .junk
def stripO (k : Nat) : Ob → Ob
  | .box ty cs => .box ty cs
  | .cell ty c => match stripC k c with | some c' => .cell ty c' | none => .junk
  | .tok e sz => .tok e sz
  | .arr e sz rows => .arr e sz rows
  | .obj ty cs => .obj ty (stripL k cs)
  | .mp es => .mp es
  | .junk => .junk
def stripF (k : Nat) (fr : Fr) : Fr := fr.map fun p => (p.1, stripV k p.2)
def stripS (k : Nat) (σ : Obs) : Obs := σ.map fun p => (p.1, if p.1 = k then .junk else stripO k p.2)
theorem stripF_nil (k : Nat) : stripF k [] = [] := rfl
theorem stripF_cons (k t : Nat) (x : VV) (l : Fr) : stripF k ((t, x) :: l) = (t, stripV k x) :: stripF k l := rfl
theorem stripS_nil (k : Nat) : stripS k [] = [] := rfl
theorem stripS_cons (k t : Nat) (x : Ob) (l : Obs) : stripS k ((t, x) :: l) = (t, if t = k then .junk else stripO k x) :: stripS k l := rfl
theorem look_stripF (k : Nat) (fr : Fr) (t : Nat) : look (stripF k fr) t = (look fr t).map (stripV k) := look_map _ _ _
theorem look_stripS (k : Nat) (σ : Obs) (t : Nat) : look (stripS k σ) t = (look σ t).map fun o => if t = k then .junk else stripO k o := by
  induction σ with
  | nil => rfl
  | cons p l ih => simp only [stripS, List.map_cons, look] at ih ⊢; split <;> simp_all
/-- what of the world is as it was -/
structure Keep (N : Nat → Prop) (w w' : World) : Prop where
  os : w'.os = w.os
  tape : w'.tape = w.tape
  output : w'.output = w.output
  size : w.heap.size ≤ w'.heap.size
  block : ∀ k, N k → k < w.heap.size → w'.heap[k]? = w.heap[k]?
theorem Keep.refl (N : Nat → Prop) (w : World) : Keep N w w := ⟨rfl, rfl, rfl, Nat.le_refl _, fun _ _ _ => rfl⟩
theorem Keep.trans {N : Nat → Prop} {a b c : World} (h : Keep N a b) (k : Keep N b c) : Keep N a c :=
  ⟨k.os.trans h.os, k.tape.trans h.tape, k.output.trans h.output, Nat.le_trans h.size k.size, fun i hi hl => (k.block i hi (Nat.lt_of_lt_of_le hl h.size)).trans (h.block i hi hl)⟩
theorem Keep.of_below {N : Nat → Prop} {w w' : World} (h : Below w.heap.size w w') : Keep N w w' := ⟨h.os, h.tape, h.output, h.size, fun k _ hk => h.block k hk⟩
/-- A type, as far as the walk needs it. -/
structure TyI where
  agg : Bool
  size : Nat
  bytes : Nat
  zero : List Value
  elem : TypeId
  places : List (Nat × Nat)
  kind : Option IntKind
  tag : Nat
def tagOf : TypeDesc → Nat
  | .struct _ => 1
  | .slice _ => 2
  | .string => 3
  | .map _ _ => 4
  | .bool => 5
  | _ => 0
def aggOf : TypeDesc → Bool
  | .struct _ | .array _ _ => true
  | _ => false
def elemOfD : TypeDesc → TypeId
  | .slice e => e
  | _ => 0
def placesOf (P : Program) : TypeDesc → Option (List (Nat × Nat))
  | .struct fs => fs.toList.mapM (fun f => (P.info? f.type).map fun i => (f.offset, i.size))
  | _ => some []
def kindOf : TypeDesc → Option IntKind
  | .int k => some k
  | _ => none
/-- what is said of a type holds in the program -/
structure TyOK (P : Program) (t : TypeId) (i : TyI) : Prop where
  size : (P.info? t).map (·.size) = some i.size
  bytes : (P.info? t).map (·.bytes) = some i.bytes
  zero : (P.info? t).map (·.zero) = some (some (if i.agg then .agg i.zero.toArray else i.zero.headD undef))
  agg : (P.underlying t).map aggOf = some i.agg
  elem : (P.underlying t).map elemOfD = some i.elem
  places : (P.underlying t).map (placesOf P) = some (some i.places)
  kind : (P.underlying t).map kindOf = some i.kind
  tag : (P.underlying t).map tagOf = some i.tag
  zlen : i.zero.length = i.size
  z1 : i.zero.all (·.oneCell') = true
  pos : 0 < i.size
  bpos : 0 < i.bytes
  sca : i.agg = false → i.size = 1
theorem TyOK.get {P : Program} {t : TypeId} {i : TyI} (h : TyOK P t i) : ∃ inf d, P.info? t = some inf ∧ P.underlying t = some d ∧ inf.size = i.size ∧ inf.bytes = i.bytes ∧
    inf.zero = some (if i.agg then .agg i.zero.toArray else i.zero.headD undef) ∧ aggOf d = i.agg ∧ elemOfD d = i.elem ∧ placesOf P d = some i.places ∧ kindOf d = i.kind ∧ tagOf d = i.tag := by
  obtain ⟨h1, h2, h3, h4, h5, h6, h7, h8, _, _, _, _, _⟩ := h
  cases hi : P.info? t with
  | none => simp [hi] at h1
  | some inf =>
    cases hd : P.underlying t with
    | none => simp [hd] at h4
    | some d =>
      simp only [hi, hd, Option.map_some, Option.some.injEq] at *
      exact ⟨inf, d, rfl, rfl, h1, h2, h3, h4, h5, h6, h7, h8⟩
structure Ctx where
  P : Program
  Ty : TypeId → Option TyI
  nt : Nat
  w0 : World
  N : Nat → Prop
  S0 : Nat → Nat → Prop
  pin : Nat → Option Nat
  low : ∀ k, k < nt → pin k = none
  df : List Deferred
/-- the blocks of an object of its own -/
def fp (γ : Nat → Nat) (T : Nat → Value) (k : Nat) : Ob → Nat → Prop
  | .box _ _, b | .cell _ _, b | .arr _ _ _, b | .obj _ _, b | .mp _, b => b = γ k
  | .tok _ _, b => (T k).ownBlock = some b
  | .junk, _ => False
def RO (X : Ctx) (γ : Nat → Nat) (T : Nat → Value) (S : Nat → Nat → Prop) (w : World) (k : Nat) : Ob → Prop
  | .box ty cs => ∃ us, w.heap[γ k]? = some (.cells us.toArray ty (0, 0)) ∧ RDL S w cs us ∧ (∀ o, ¬ S (γ k) o) ∧ ¬ X.N (γ k)
  | .cell ty c => ∃ u, w.heap[γ k]? = some (.cells #[u] ty (0, 0)) ∧ RC γ T S w c u ∧ u.oneCell' = true ∧ (∀ o, ¬ S (γ k) o) ∧ ¬ X.N (γ k) ∧ ∀ b, X.pin k = some b → γ k = b
  | .tok e sz => ∃ n xs, w.ownsRow 0 e sz (T k) n xs ∧ ∀ g, (T k).ownBlock = some g → ¬ X.N g ∧ ∀ o, S g o → o < n * sz
  | .arr e sz rows => ∃ us : List Value, w.heap[γ k]? = some (.cells us.toArray e (0, 0)) ∧ us.length = rows.length * sz ∧ (∀ (i : Nat) (q : List D), rows[i]? = some q → q.length = sz ∧ ∀ (j : Nat) (x : D), q[j]? = some x → ∃ u, us[i * sz + j]? = some u ∧ RD S w x u) ∧ (∀ o, ¬ S (γ k) o) ∧ ¬ X.N (γ k) ∧ ∀ b, X.pin k = some b → γ k = b
  | .obj ty cs => ∃ us : List Value, w.heap[γ k]? = some (.cells us.toArray ty (0, 0)) ∧ (us.length = cs.length ∧ ∀ (j : Nat) (c : C), cs[j]? = some c → ∃ u, us[j]? = some u ∧ RC γ T S w c u ∧ u.oneCell' = true) ∧ (∀ o, ¬ S (γ k) o) ∧ ¬ X.N (γ k) ∧ ∀ b, X.pin k = some b → γ k = b
  | .mp es => ∃ (ms : List MapEntry) (clock : Nat), w.heap[γ k]? = some (.map ms.toArray clock) ∧ (ms.length = es.length ∧ ∀ (j : Nat) (p : Value × VV), es[j]? = some p → ∃ m, ms[j]? = some m ∧ m.key = p.1 ∧ ∀ (γ : Nat → Nat) (T : Nat → Value), RV γ T S w p.2 m.val) ∧ (∀ o, ¬ S (γ k) o) ∧ ¬ X.N (γ k) ∧ ∀ b, X.pin k = some b → γ k = b
  | .junk => True
structure St (X : Ctx) (γ : Nat → Nat) (T : Nat → Value) (S : Nat → Nat → Prop) (w : World) (σ : Obs) : Prop where
  keep : Keep X.N X.w0 w
  lt : ∀ b o, S b o → b < w.heap.size
  nlt : ∀ b, X.N b → b < X.w0.heap.size
  set : ∀ b o, S b o → X.S0 b o ∨ ¬ X.N b
  mon : (∀ b o, X.S0 b o → S b o) ∧ Kp X.S0 X.w0 w
  obj : ∀ k o, look σ k = some o → RO X γ T S w k o
  dis : ∀ k k' o o', look σ k = some o → look σ k' = some o' → k ≠ k' → ∀ b, fp γ T k o b → ¬ fp γ T k' o' b
structure Rel (X : Ctx) (γ : Nat → Nat) (T : Nat → Value) (S : Nat → Nat → Prop) (w : World) (fr : Fr) (σ : Obs) (a : Act) : Prop where
  st : St X γ T S w σ
  fr : ∀ t x, look fr t = some x → RV γ T S w x (a.tmps.getD t undef)
  nt : a.tmps.size = X.nt
  df : a.defers = X.df
end Go.Proofs.Ytjhkehloipmjfaa
