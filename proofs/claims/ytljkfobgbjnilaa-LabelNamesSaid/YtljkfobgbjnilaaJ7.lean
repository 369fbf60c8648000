/- Plain laws of labels: nothing counts but the names, and whether there is a label. No program in sight. -/
import Derived.Test.YtljkfobgbjnilaaJ5
namespace Go.Proofs.Ytljkfobgbjnilaa
open Go.RowKit
theorem any_mem {l : List ByteArray} {s : ByteArray} : l.any (sameS s) = true ↔ s ∈ l := by
  rw [List.any_eq_true]
  constructor
  · rintro ⟨q, hq, h⟩; rw [sameS_iff] at h; rw [h]; exact hq
  · intro h; exact ⟨s, h, sameS_iff.2 rfl⟩
/-- with the same names and as much of a label, it holds as before -/
theorem holds_names {l l' : List ByteArray} (hne : 0 < l.length ↔ 0 < l'.length) : ∀ (n : Nat) (e : E), term n e = true → (∀ s ∈ namesN n e, s ∈ l ↔ s ∈ l') → holdsN n l e = holdsN n l' e
  | 0, e, h, _ => by rw [term] at h; cases h
  | n + 1, e, h, hs => by
    have hk : ∀ i, i < e.kids.length → ∀ s ∈ namesN n (kidE e i), s ∈ l ↔ s ∈ l' := fun i hi s hm => hs s (by
      rw [namesN_succ]
      exact List.mem_append_right _ (List.mem_flatMap.2 ⟨_, kid_at hi, hm⟩))
    obtain ⟨h6, h78⟩ := term_kids h
    have hlen : ∀ i, holdsN n l (kidE e i) = holdsN n l' (kidE e i) ∨ term n (kidE e i) = false ∨ e.kids.length ≤ i := fun i => by
      by_cases hi : i < e.kids.length
      · cases ht : term n (kidE e i) with
        | false => exact .inr (.inl rfl)
        | true => exact .inl (holds_names hne n _ ht (hk i hi))
      · exact .inr (.inr (by omega))
    have lenOf : ∀ m, (e.kind = 6 ∧ m = 1) ∨ ((e.kind = 7 ∨ e.kind = 8) ∧ m = 2) → e.kids.length = m := by
      intro m hm
      rw [termS] at h
      rcases hm with ⟨hk, rfl⟩ | ⟨hk | hk, rfl⟩
      · rw [hk] at h
        have h' : (e.kids.length == 1 && bareV e.val && (false == word e.name) && (false || emptyS e.name) && e.kids.all (term n)) = true := h
        simp only [Bool.and_eq_true, beq_iff_eq] at h'
        exact h'.1.1.1.1
      · rw [hk] at h
        have h' : (e.kids.length == 2 && bareV e.val && (false == word e.name) && (false || emptyS e.name) && e.kids.all (term n)) = true := h
        simp only [Bool.and_eq_true, beq_iff_eq] at h'
        exact h'.1.1.1.1
      · rw [hk] at h
        have h' : (e.kids.length == 2 && bareV e.val && (false == word e.name) && (false || emptyS e.name) && e.kids.all (term n)) = true := h
        simp only [Bool.and_eq_true, beq_iff_eq] at h'
        exact h'.1.1.1.1
    have kid : ∀ i, term n (kidE e i) = true → i < e.kids.length → holdsN n l (kidE e i) = holdsN n l' (kidE e i) := fun i ht hi => by
      rcases hlen i with h1 | h1 | h1
      · exact h1
      · rw [ht] at h1; cases h1
      · omega
    rw [holdsN, holdsN]
    split
    · rename_i h4
      have hm : e.name ∈ namesN (n + 1) e := by rw [namesN_succ, if_pos h4]; simp
      rw [Bool.eq_iff_iff, any_mem, any_mem]
      exact hs _ hm
    split
    · rw [Bool.eq_iff_iff, decide_eq_true_eq, decide_eq_true_eq]; exact hne
    split
    · rename_i hk6
      rw [kid 0 (h6 hk6) (by rw [lenOf 1 (.inl ⟨hk6, rfl⟩)]; omega)]
    split
    · rename_i hk7
      obtain ⟨t0, t1⟩ := h78 (.inl hk7)
      have := lenOf 2 (.inr ⟨.inl hk7, rfl⟩)
      rw [kid 0 t0 (by omega), kid 1 t1 (by omega)]
    split
    · rename_i hk8
      obtain ⟨t0, t1⟩ := h78 (.inr hk8)
      have := lenOf 2 (.inr ⟨.inr hk8, rfl⟩)
      rw [kid 0 t0 (by omega), kid 1 t1 (by omega)]
    · rfl
theorem has_names {l l' : List ByteArray} {e : E} (hne : 0 < l.length ↔ 0 < l'.length) (hs : ∀ s ∈ sortedNames e, s ∈ l ↔ s ∈ l') : hasL l e = hasL l' e := by
  unfold hasL
  cases hr : labelRight e with
  | false => rw [Bool.false_and, Bool.false_and]
  | true =>
    by_cases hk : e.kind = 0
    · rw [beq_iff_eq.2 hk, Bool.true_or, Bool.true_or]
    · have ht : term 50 e = true := by unfold labelRight at hr; rwa [if_neg hk] at hr
      rw [holds_names hne 50 e ht fun s hm => hs s (by unfold sortedNames; rw [hr, if_pos rfl, mem_sortS]; exact hm)]
theorem names_word : ∀ (n : Nat) (e : E), term n e = true → ∀ s ∈ namesN n e, word s = true
  | 0, e, h, _, _ => by rw [term] at h; cases h
  | n + 1, e, h, s, hs => by
    rw [namesN_succ] at hs
    rw [termS] at h
    rcases List.mem_append.1 hs with h1 | h1
    · by_cases h4 : e.kind = 4
      · rw [if_pos h4] at h1
        rw [h4] at h
        have h' : (e.kids.length == 0 && bareV e.val && (true == word e.name) && (true || emptyS e.name) && e.kids.all (term n)) = true := h
        simp only [Bool.and_eq_true, beq_iff_eq] at h'
        rw [List.mem_singleton.1 h1]
        exact h'.1.1.2.symm
      · rw [if_neg h4] at h1; cases h1
    · obtain ⟨q, hq, hm⟩ := List.mem_flatMap.1 h1
      refine names_word n q ?_ s hm
      cases ha : arity e.kind with
      | none => rw [ha] at h; cases h
      | some p =>
        rw [ha] at h
        obtain ⟨k, nm⟩ := p
        simp only [Bool.and_eq_true, List.all_eq_true] at h
        exact h.2 q hq
theorem sorted_word {e : E} : ∀ s ∈ sortedNames e, s.size ≤ 40 := by
  intro s hs
  unfold sortedNames at hs
  cases hr : labelRight e with
  | false => rw [hr] at hs; simp at hs
  | true =>
    rw [hr, if_pos rfl, mem_sortS] at hs
    by_cases hk : e.kind = 0
    · have : e.kids = [] := by
        unfold labelRight at hr
        rw [if_pos hk, Bool.and_eq_true] at hr
        exact List.isEmpty_iff.1 hr.2
      rw [namesN_succ, if_neg (by rw [hk]; decide), this] at hs
      simp at hs
    · have ht : term 50 e = true := by unfold labelRight at hr; rwa [if_neg hk] at hr
      have hw := names_word 50 e ht s hs
      unfold word at hw
      simp only [Bool.and_eq_true, decide_eq_true_eq] at hw
      exact hw.2.2
/-- a text longer than all names -/
def otherF (o : ByteArray) (names : List ByteArray) : ByteArray := names.foldl (fun o s => if o.size ≤ s.size then s ++ ⟨#[120]⟩ else o) o
def keptF (names l : List ByteArray) : List ByteArray := (l.filter (fun s => inS names s)).flatMap fun s => [s, s]
theorem size_x (s : ByteArray) : (s ++ (⟨#[120]⟩ : ByteArray)).size = s.size + 1 := by rw [ByteArray.size_append]; rfl
theorem otherF_ge : ∀ (names : List ByteArray) (o : ByteArray), o.size ≤ (otherF o names).size ∧ ∀ s ∈ names, s.size < (otherF o names).size
  | [], o => ⟨Nat.le_refl _, fun s h => by cases h⟩
  | q :: names, o => by
    have h := otherF_ge names (if o.size ≤ q.size then q ++ ⟨#[120]⟩ else o)
    have e : otherF o (q :: names) = otherF (if o.size ≤ q.size then q ++ ⟨#[120]⟩ else o) names := rfl
    rw [e]
    have h0 : o.size ≤ (if o.size ≤ q.size then q ++ (⟨#[120]⟩ : ByteArray) else o).size ∧ q.size < (if o.size ≤ q.size then q ++ (⟨#[120]⟩ : ByteArray) else o).size := by
      split
      · rw [size_x]; omega
      · omega
    refine ⟨Nat.le_trans h0.1 h.1, fun s hs => ?_⟩
    rcases List.mem_cons.1 hs with rfl | hs
    · exact Nat.lt_of_lt_of_le h0.2 h.1
    · exact h.2 s hs
theorem otherF_le {N : Nat} : ∀ (names : List ByteArray) (o : ByteArray), (∀ s ∈ names, s.size ≤ N) → o.size ≤ N + 1 → (otherF o names).size ≤ N + 1
  | [], _, _, h => h
  | q :: names, o, hs, h => by
    refine otherF_le names _ (fun s hm => hs s (List.mem_cons_of_mem _ hm)) ?_
    have := hs q List.mem_cons_self
    show (if o.size ≤ q.size then q ++ (⟨#[120]⟩ : ByteArray) else o).size ≤ N + 1
    split
    · rw [size_x]; omega
    · exact h
theorem mem_keptF {names l : List ByteArray} {s : ByteArray} : s ∈ keptF names l ↔ s ∈ l ∧ s ∈ names := by
  unfold keptF
  rw [List.mem_flatMap]
  constructor
  · rintro ⟨q, hq, hs⟩
    obtain ⟨h1, h2⟩ := List.mem_filter.1 hq
    have : s = q := by simpa using hs
    subst this
    exact ⟨h1, inS_iff.1 h2⟩
  · rintro ⟨h1, h2⟩
    exact ⟨s, List.mem_filter.2 ⟨h1, inS_iff.2 h2⟩, by simp⟩
theorem names_law (l : List ByteArray) (e : E) : hasL (keptF (sortedNames e) l.reverse ++ (if 0 < l.length then [otherF ⟨#[]⟩ (sortedNames e)] else [])) e = hasL l e := by
  refine (has_names ?_ fun s hs => ?_).symm
  · rw [List.length_append]
    by_cases h : 0 < l.length
    · rw [if_pos h]; simp [h]
    · rw [if_neg h]
      have : l = [] := List.eq_nil_of_length_eq_zero (by omega)
      subst this
      simp [keptF]
  · rw [List.mem_append, mem_keptF, List.mem_reverse]
    constructor
    · intro h; exact .inl ⟨h, hs⟩
    · rintro (h | h)
      · exact h.1
      · exfalso
        have hlt := (otherF_ge (sortedNames e) ⟨#[]⟩).2 s hs
        split at h
        · have : s = otherF ⟨#[]⟩ (sortedNames e) := by simpa using h
          rw [← this] at hlt; omega
        · cases h
end Go.Proofs.Ytljkfobgbjnilaa
