/- Plain law of labels: what label's functions compute. No program in sight. -/
import Derived.Test.YtljkfobgbjnilaaA0
import Derived.Laws.Strings
namespace Go.Proofs.Ytljkfobgbjnilaa
open Go.RowKit

/-- == of strings -/
def sameS (s q : ByteArray) : Bool := s.toList == q.toList
def kidE (e : E) (i : Nat) : E := e.kids[i]?.getD zE
/-- does a right term hold of labels? -/
def holdsN : Nat → List ByteArray → E → Bool
  | 0, _, _ => true
  | n + 1, l, e =>
    if e.kind = 4 then l.any (sameS e.name)
    else if e.kind = 5 then decide (0 < l.length)
    else if e.kind = 6 then !holdsN n l (kidE e 0)
    else if e.kind = 7 then holdsN n l (kidE e 0) && holdsN n l (kidE e 1)
    else if e.kind = 8 then holdsN n l (kidE e 0) || holdsN n l (kidE e 1)
    else true
def hasL (l : List ByteArray) (e : E) : Bool := labelRight e && (e.kind == 0 || holdsN 50 l e)
/-- all names of a term, in its order, each as often as it stands there -/
def namesN : Nat → E → List ByteArray
  | 0, _ => []
  | n + 1, e => (if e.kind = 4 then [e.name] else []) ++ e.kids.flatMap (namesN n)
theorem namesN_succ (n : Nat) (e : E) : namesN (n + 1) e = (if e.kind = 4 then [e.name] else []) ++ e.kids.flatMap (namesN n) := by rw [namesN]
/-- what label.names asks of an expression -/
def okNames : Nat → E → Prop
  | 0, _ => False
  | n + 1, e => (e.kind = 4 → e.name.size ≤ 140737488355328) ∧ ∀ q ∈ e.kids, okNames n q
theorem okNames_succ (n : Nat) (e : E) : okNames (n + 1) e = ((e.kind = 4 → e.name.size ≤ 140737488355328) ∧ ∀ q ∈ e.kids, okNames n q) := by rw [okNames]

/-! ### rising lists of texts -/
/-- < of strings -/
def lessS (a b : ByteArray) : Bool := Op.bytesLess a.toList b.toList
def inS (l : List ByteArray) (s : ByteArray) : Bool := l.any (fun q => sameS q s)
/-- a rising list with one more, if it has it not -/
def withS (l : List ByteArray) (s : ByteArray) : List ByteArray := if inS l s then l else l.takeWhile (fun q => lessS q s) ++ s :: l.dropWhile (fun q => lessS q s)
def sortS (l : List ByteArray) : List ByteArray := l.foldl withS []
def sortedNames (e : E) : List ByteArray := if labelRight e then sortS (namesN 50 e) else []
def ltk (a b : ByteArray) : Prop := a.data.toList < b.data.toList
theorem bytesLess_dec : ∀ (x y : List UInt8), Op.bytesLess x y = decide (x < y)
  | [], [] => by simp [Op.bytesLess]
  | _ :: _, [] => by simp [Op.bytesLess]
  | [], _ :: _ => by simp [Op.bytesLess]
  | a :: x, b :: y => by
    rw [Op.bytesLess, bytesLess_dec x y]
    by_cases h : a < b
    · simp [h, List.cons_lt_cons_iff]
    · by_cases h' : a = b <;> simp [h, h', List.cons_lt_cons_iff]
theorem lessS_iff {a b : ByteArray} : lessS a b = true ↔ ltk a b := by
  unfold lessS ltk
  rw [bytesLess_dec, ByteArray.toList_eq, ByteArray.toList_eq, decide_eq_true_eq]
theorem sameS_iff {a b : ByteArray} : sameS a b = true ↔ a = b := by
  unfold sameS
  rw [ByteArray.toList_eq, ByteArray.toList_eq, beq_iff_eq]
  constructor
  · intro h; cases a; cases b; simp at h; rw [h]
  · rintro rfl; rfl
theorem sameS_comm (a b : ByteArray) : sameS a b = sameS b a := by
  rw [Bool.eq_iff_iff, sameS_iff, sameS_iff]; exact eq_comm
theorem inS_iff {l : List ByteArray} {s : ByteArray} : inS l s = true ↔ s ∈ l := by
  unfold inS
  rw [List.any_eq_true]
  constructor
  · rintro ⟨q, hq, h⟩; rw [← sameS_iff.1 h]; exact hq
  · intro h; exact ⟨s, h, sameS_iff.2 rfl⟩
theorem ltk_irrefl (a : ByteArray) : ¬ ltk a a := List.lt_irrefl _
theorem ltk_trans {a b c : ByteArray} (h : ltk a b) (k : ltk b c) : ltk a c := List.lt_trans h k
theorem ltk_of {a b : ByteArray} (h : ¬ ltk a b) (hne : a ≠ b) : ltk b a := by
  have h1 : b.data.toList ≤ a.data.toList := List.not_lt.1 h
  rcases Decidable.em (b.data.toList < a.data.toList) with h2 | h2
  · exact h2
  · exfalso; apply hne
    have := List.le_antisymm (List.not_lt.1 h2) h1
    cases a; cases b; simp at this; rw [this]
theorem withS_nil (s : ByteArray) : withS [] s = [s] := rfl
theorem withS_cons (q : ByteArray) (l : List ByteArray) (s : ByteArray) : withS (q :: l) s = if sameS q s then q :: l else if lessS q s then q :: withS l s else if inS l s then q :: l else s :: q :: l := by
  unfold withS
  have : inS (q :: l) s = (sameS q s || inS l s) := rfl
  rw [this]
  cases sameS q s <;> cases inS l s <;> cases hl : lessS q s <;> simp [hl]
theorem mem_withS (s x : ByteArray) : ∀ l : List ByteArray, x ∈ withS l s ↔ x = s ∨ x ∈ l
  | [] => by simp [withS_nil]
  | q :: l => by
    rw [withS_cons]
    cases h1 : sameS q s
    · cases h2 : lessS q s
      · cases h3 : inS l s
        · simp
        · have := inS_iff.1 h3
          simp only [Bool.false_eq_true, if_false, if_true]
          constructor
          · exact Or.inr
          · rintro (rfl | h)
            · exact List.mem_cons_of_mem _ this
            · exact h
      · simp only [Bool.false_eq_true, if_false, if_true, List.mem_cons, mem_withS s x l]
        constructor
        · rintro (h | h | h)
          · exact .inr (.inl h)
          · exact .inl h
          · exact .inr (.inr h)
        · rintro (h | h | h)
          · exact .inr (.inl h)
          · exact .inl h
          · exact .inr (.inr h)
    · have := sameS_iff.1 h1
      subst this
      simp
theorem sorted_withS (s : ByteArray) : ∀ l : List ByteArray, l.Pairwise ltk → (withS l s).Pairwise ltk
  | [], _ => by rw [withS_nil]; exact List.pairwise_singleton _ _
  | q :: l, h => by
    rw [withS_cons]
    rw [List.pairwise_cons] at h
    cases h1 : sameS q s
    · have hqs : q ≠ s := fun e => by rw [sameS_iff.2 e] at h1; cases h1
      cases h2 : lessS q s
      · cases h3 : inS l s
        · have hsq : ltk s q := ltk_of (fun e => by rw [lessS_iff.2 e] at h2; cases h2) hqs
          simp only [Bool.false_eq_true, if_false]
          refine List.pairwise_cons.2 ⟨?_, List.pairwise_cons.2 h⟩
          intro x hx
          rcases List.mem_cons.1 hx with rfl | hx
          · exact hsq
          · exact ltk_trans hsq (h.1 x hx)
        · exact List.pairwise_cons.2 h
      · simp only [Bool.false_eq_true, if_false, if_true]
        refine List.pairwise_cons.2 ⟨?_, sorted_withS s l h.2⟩
        intro x hx
        rcases (mem_withS s x l).1 hx with rfl | hx
        · exact lessS_iff.1 h2
        · exact h.1 x hx
    · exact List.pairwise_cons.2 h
theorem mem_foldS (x : ByteArray) : ∀ (l acc : List ByteArray), x ∈ l.foldl withS acc ↔ x ∈ l ∨ x ∈ acc
  | [], acc => by simp
  | s :: l, acc => by
    rw [List.foldl_cons, mem_foldS x l, mem_withS]
    simp only [List.mem_cons]
    constructor
    · rintro (h | h | h)
      · exact .inl (.inr h)
      · exact .inl (.inl h)
      · exact .inr h
    · rintro ((h | h) | h)
      · exact .inr (.inl h)
      · exact .inl h
      · exact .inr (.inr h)
theorem sorted_foldS : ∀ (l acc : List ByteArray), acc.Pairwise ltk → (l.foldl withS acc).Pairwise ltk
  | [], _, h => h
  | s :: l, acc, h => sorted_foldS l _ (sorted_withS s acc h)
theorem mem_sortS {x : ByteArray} {l : List ByteArray} : x ∈ sortS l ↔ x ∈ l := by unfold sortS; rw [mem_foldS]; simp
theorem sorted_sortS (l : List ByteArray) : (sortS l).Pairwise ltk := sorted_foldS l [] List.Pairwise.nil
theorem length_withS (s : ByteArray) : ∀ l : List ByteArray, (withS l s).length ≤ l.length + 1
  | [] => by simp [withS_nil]
  | q :: l => by
    rw [withS_cons]
    have := length_withS s l
    split
    · simp
    · split
      · simp; omega
      · split <;> simp
theorem length_foldS : ∀ (l acc : List ByteArray), (l.foldl withS acc).length ≤ l.length + acc.length
  | [], acc => by simp
  | s :: l, acc => by
    rw [List.foldl_cons]
    have := length_foldS l (withS acc s)
    have := length_withS s acc
    simp only [List.length_cons]; omega
theorem length_sortS (l : List ByteArray) : (sortS l).length ≤ l.length := by
  have := length_foldS l []
  simpa [sortS] using this
/-- two rising lists of the same texts are one -/
theorem sorted_eq {l l' : List ByteArray} (h : l.Pairwise ltk) (h' : l'.Pairwise ltk) (hm : ∀ x, x ∈ l ↔ x ∈ l') : l = l' := by
  have nd : ∀ {m : List ByteArray}, m.Pairwise ltk → m.Nodup := fun hm => hm.imp (fun {a b} (hab : ltk a b) (e : a = b) => ltk_irrefl b (e ▸ hab))
  refine List.Perm.eq_of_pairwise (le := ltk) (fun a b _ _ h1 h2 => absurd (ltk_trans h1 h2) (ltk_irrefl a)) h h' ((List.perm_ext_iff_of_nodup (nd h) (nd h')).2 hm)

/-! ### how large, has it a not -/
def nodes : E → Nat
  | ⟨_, _, _, kids⟩ => 1 + (kids.attach.map (fun k => nodes k.1)).sum
termination_by e => SizeOf.sizeOf e
decreasing_by
  have := List.sizeOf_lt_of_mem k.2
  simp only [E.mk.sizeOf_spec]; omega
theorem nodes_eq (e : E) : nodes e = 1 + (e.kids.map nodes).sum := by
  cases e with
  | mk a b c kids =>
    rw [nodes]
    congr 2
    exact List.attach_map_val (l := kids) (f := nodes)
def notsE : E → Bool
  | ⟨k, _, _, kids⟩ => k == 6 || kids.attach.any (fun k => notsE k.1)
termination_by e => SizeOf.sizeOf e
decreasing_by
  have := List.sizeOf_lt_of_mem k.2
  simp only [E.mk.sizeOf_spec]; omega
theorem notsE_eq (e : E) : notsE e = (e.kind == 6 || e.kids.any notsE) := by
  cases e with
  | mk a b c kids =>
    rw [notsE]
    congr 1
    rw [Bool.eq_iff_iff, List.any_eq_true, List.any_eq_true]
    constructor
    · rintro ⟨k, _, hk⟩; exact ⟨k.1, k.2, hk⟩
    · rintro ⟨k, hm, hk⟩; exact ⟨⟨k, hm⟩, List.mem_attach _ _, hk⟩
def count (e : E) : Nat := min 301 (nodes e)
theorem nodes_pos (e : E) : 1 ≤ nodes e := by rw [nodes_eq]; omega
theorem namesN_le : ∀ (n : Nat) (e : E), (namesN n e).length ≤ nodes e
  | 0, e => by unfold namesN; exact Nat.zero_le _
  | n + 1, e => by
    rw [namesN_succ, nodes_eq, List.length_append, List.length_flatMap]
    have h1 : (if e.kind = 4 then [e.name] else []).length ≤ 1 := by split <;> simp
    have h2 : ∀ l : List E, (l.map (fun q => (namesN n q).length)).sum ≤ (l.map nodes).sum := by
      intro l
      induction l with
      | nil => simp
      | cons q l ih => have := namesN_le n q; simp only [List.map_cons, List.sum_cons]; omega
    have := h2 e.kids
    omega
end Go.Proofs.Ytljkfobgbjnilaa
