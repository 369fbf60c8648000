/- Plain laws of labels: any number of nots around a name. No program in sight. -/
import Derived.Test.YtljkfobgbjnilaaJ2
namespace Go.Proofs.Ytljkfobgbjnilaa
open Go.RowKit
def notsN : Nat → E
  | 0 => nameE sA
  | n + 1 => notE (notsN n)
theorem term_notsN : ∀ (m n : Nat), term n (notsN m) = decide (m < n)
  | 0, 0 => by rw [term]; rfl
  | 0, n + 1 => by
    show term (n + 1) (nameE sA) = _
    rw [term_nameE, wordA]; simp
  | m + 1, 0 => by rw [term]; simp
  | m + 1, n + 1 => by
    show term (n + 1) (notE (notsN m)) = _
    rw [term_notE, term_notsN m n]; simp
theorem kind_notsN (m : Nat) : (notsN m).kind ≠ 0 := by
  cases m with
  | zero => show (4 : Int) ≠ 0; decide
  | succ m => show (6 : Int) ≠ 0; decide
theorem right_notsN (m : Nat) : labelRight (notsN m) = decide (m < 50) := by
  unfold labelRight; rw [if_neg (kind_notsN m), term_notsN]
theorem holds_notsN (l : List ByteArray) : ∀ (m n : Nat), m < n → holdsN n l (notsN m) = (l.any (sameS sA) == decide (m % 2 = 0))
  | 0, n + 1, _ => by
    show holdsN (n + 1) l (nameE sA) = _
    rw [holds_nameE]; cases l.any (sameS sA) <;> rfl
  | m + 1, n + 1, h => by
    show holdsN (n + 1) l (notE (notsN m)) = _
    rw [holds_notE, holds_notsN l m n (by omega)]
    rcases Nat.mod_two_eq_zero_or_one m with h2 | h2
    · rw [decide_eq_true (by omega : m % 2 = 0), decide_eq_false (by omega : ¬ (m + 1) % 2 = 0)]; cases l.any (sameS sA) <;> rfl
    · rw [decide_eq_false (by omega : ¬ m % 2 = 0), decide_eq_true (by omega : (m + 1) % 2 = 0)]; cases l.any (sameS sA) <;> rfl
theorem has_notsN (l : List ByteArray) (m : Nat) : hasL l (notsN m) = (decide (m < 50) && (l.any (sameS sA) == decide (m % 2 = 0))) := by
  unfold hasL
  rw [right_notsN, beq_eq_false_iff_ne.2 (kind_notsN m), Bool.false_or]
  by_cases h : m < 50
  · rw [holds_notsN l m 50 h]
  · simp [h]
theorem names_notsN : ∀ (m n : Nat), m < n → namesN n (notsN m) = [sA]
  | 0, n + 1, _ => names_nameE n sA
  | m + 1, n + 1, h => by
    show namesN (n + 1) (notE (notsN m)) = _
    rw [names_notE, names_notsN m n (by omega)]
theorem sorted_notsN (m : Nat) : (sortedNames (notsN m)).length = if m < 50 then 1 else 0 := by
  unfold sortedNames
  rw [right_notsN]
  by_cases h : m < 50
  · rw [if_pos (decide_eq_true h), if_pos h, names_notsN m 50 h]
    show (withS [] sA).length = 1
    rw [withS_nil]; rfl
  · rw [if_neg (by simpa using h), if_neg h]; rfl
theorem names_le_notsN (m : Nat) (h : m ≤ 60) : (namesN 50 (notsN m)).length ≤ 1000000000000 := by
  have h1 := namesN_le 50 (notsN m)
  have h2 : ∀ m, nodes (notsN m) = m + 1 := by
    intro m
    induction m with
    | zero => rw [nodes_eq]; rfl
    | succ m ih =>
      show nodes (notE (notsN m)) = _
      rw [nodes_eq]
      show 1 + (nodes (notsN m) + 0) = _
      rw [ih]; omega
  rw [h2] at h1
  omega
theorem anyAB (has : Bool) : ((if has then [sB, sA] else [sB]).any (sameS sA)) = has := by
  cases has
  · simp only [Bool.false_eq_true, if_false, List.any_cons, List.any_nil, same_eq]; decide
  · simp only [if_true, List.any_cons, List.any_nil, same_eq]; decide
theorem and_rem (n : Int) (m : Nat) : ∃ k : Nat, (IntKind.i64.wrap ((BitVec.ofInt IntKind.i64.bits n &&& BitVec.ofInt IntKind.i64.bits 65535).toNat : Nat)).tmod ((m + 1 : Nat) : Int) = k ∧ k ≤ m := by
  have hb : (BitVec.ofInt IntKind.i64.bits n &&& BitVec.ofInt IntKind.i64.bits 65535).toNat ≤ 65535 := by
    rw [BitVec.toNat_and]
    have : (BitVec.ofInt IntKind.i64.bits 65535).toNat = 65535 := by decide
    rw [this]
    exact Nat.and_le_right
  generalize (BitVec.ofInt IntKind.i64.bits n &&& BitVec.ofInt IntKind.i64.bits 65535).toNat = z at hb
  rw [IntWalk.i64_in (z : Int) (by omega)]
  refine ⟨z % (m + 1), ?_, by have := Nat.mod_lt z (show 0 < m + 1 by omega); omega⟩
  rw [Int.tmod_eq_emod_of_nonneg (by omega)]
  omega
theorem tmod2 (m : Nat) : (((m : Int).tmod 2) == 0) = decide (m % 2 = 0) := by
  rw [Int.tmod_eq_emod_of_nonneg (by omega), Bool.eq_iff_iff, beq_iff_eq, decide_eq_true_eq]; omega
end Go.Proofs.Ytljkfobgbjnilaa
