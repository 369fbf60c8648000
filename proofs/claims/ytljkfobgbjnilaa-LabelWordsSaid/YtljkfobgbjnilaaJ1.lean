/- Plain laws of words. No program in sight. -/
import Derived.Test.YtljkfobgbjnilaaJ0
namespace Go.Proofs.Ytljkfobgbjnilaa
open Go.RowKit

theorem okN_first {n : Nat} (h : okN true n = true) : okN false n = true := by
  unfold okN at *; simp at *; exact .inl h
theorem allW_false : ∀ {b : Bool} {l : List UInt8}, allW b l = true → allW false l = true
  | _, [], _ => rfl
  | b, c :: l, h => by
    unfold allW at *
    simp only [Bool.and_eq_true] at *
    refine ⟨?_, h.2⟩
    cases b
    · exact h.1
    · exact okN_first h.1
theorem allW_append : ∀ {b : Bool} {l m : List UInt8}, l ≠ [] → allW b (l ++ m) = (allW b l && allW false m)
  | b, [], m, h => absurd rfl h
  | b, [c], m, _ => by
    show (okN b c.toNat && allW false m) = (okN b c.toNat && true && allW false m)
    rw [Bool.and_true]
  | b, c :: d :: l, m, _ => by
    show (okN b c.toNat && allW false ((d :: l) ++ m)) = (okN b c.toNat && allW false (d :: l) && allW false m)
    rw [allW_append (by simp), Bool.and_assoc]
theorem toList_append (a b : ByteArray) : (a ++ b).data.toList = a.data.toList ++ b.data.toList := by simp
theorem size_len (a : ByteArray) : a.size = a.data.toList.length := (Array.length_toList (xs := a.data)).symm
theorem word_iff (s : ByteArray) : word s = true ↔ allW true s.data.toList = true ∧ s.data.toList ≠ [] ∧ s.size ≤ 40 := by
  rw [word_eq]
  simp only [Bool.and_eq_true, Bool.not_eq_true', List.isEmpty_eq_false_iff, decide_eq_true_eq]
theorem word_two (a b : ByteArray) (ha : word a = true) (hb : word b = true) : word (a ++ b) = decide (a.size + b.size ≤ 40) := by
  obtain ⟨a1, a2, a3⟩ := (word_iff a).1 ha
  obtain ⟨b1, b2, b3⟩ := (word_iff b).1 hb
  rw [Bool.eq_iff_iff, word_iff, decide_eq_true_eq, toList_append, allW_append a2, a1, allW_false b1, size_len (a ++ b), toList_append, List.length_append, ← size_len, ← size_len]
  simp [a2]
theorem word_under (a : ByteArray) (ha : word a = true) : word (⟨#[95]⟩ ++ a) = decide (a.size < 40) := by
  obtain ⟨a1, a2, a3⟩ := (word_iff a).1 ha
  have e : (⟨#[95]⟩ : ByteArray).data.toList = [95] := rfl
  rw [Bool.eq_iff_iff, word_iff, decide_eq_true_eq, toList_append, e, allW_append (by simp), allW_false a1, size_len (⟨#[95]⟩ ++ a), toList_append, e, List.length_append, ← size_len]
  have : allW true [95] = true := by decide
  rw [this]
  simp; omega
theorem word_nine (a : ByteArray) : word (⟨#[57]⟩ ++ a) = false := by
  have e : (⟨#[57]⟩ : ByteArray).data.toList = [57] := rfl
  rw [Bool.eq_false_iff]
  intro h
  have := ((word_iff _).1 h).1
  rw [toList_append, e, allW_append (by simp)] at this
  have z : allW true [57] = false := by decide
  rw [z] at this; cases this
theorem word_blank (a : ByteArray) : word (a ++ ⟨#[32]⟩) = false := by
  have e : (⟨#[32]⟩ : ByteArray).data.toList = [32] := rfl
  rw [Bool.eq_false_iff]
  intro h
  have h1 := ((word_iff _).1 h).1
  rw [toList_append, e] at h1
  by_cases hn : a.data.toList = []
  · rw [hn] at h1
    have z : allW true ([] ++ [32]) = false := by decide
    rw [z] at h1; cases h1
  · rw [allW_append hn] at h1
    have z : allW false [32] = false := by decide
    rw [z, Bool.and_false] at h1; cases h1
end Go.Proofs.Ytljkfobgbjnilaa
