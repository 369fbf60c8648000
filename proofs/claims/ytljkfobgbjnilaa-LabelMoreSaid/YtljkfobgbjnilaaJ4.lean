/- Plain laws of labels: without a not, more labels ask no less. No program in sight. -/
import Derived.Test.YtljkfobgbjnilaaJ2
namespace Go.Proofs.Ytljkfobgbjnilaa
open Go.RowKit
theorem nots_kid {e : E} (h : notsE e = false) (i : Nat) : notsE (kidE e i) = false := by
  rw [notsE_eq, Bool.or_eq_false_iff] at h
  unfold kidE
  cases hk : e.kids[i]? with
  | none =>
    rw [Option.getD_none, notsE_eq]; rfl
  | some q =>
    rw [Option.getD_some]
    have := List.any_eq_false.1 h.2 q (List.mem_of_getElem? hk)
    simpa using this
theorem holds_mono {l l' : List ByteArray} (hl : ∀ s ∈ l, s ∈ l') : ∀ (n : Nat) (e : E), notsE e = false → holdsN n l e = true → holdsN n l' e = true
  | 0, _, _, _ => by rw [holdsN]
  | n + 1, e, hn, h => by
    have h6 : e.kind ≠ 6 := fun h6 => by rw [notsE_eq, h6] at hn; simp at hn
    rw [holdsN] at h ⊢
    split
    · rename_i h4
      rw [if_pos h4] at h
      obtain ⟨s, hs, hq⟩ := List.any_eq_true.1 h
      exact List.any_eq_true.2 ⟨s, hl s hs, hq⟩
    · rename_i h4
      rw [if_neg h4] at h
      split
      · rename_i h5
        rw [if_pos h5, decide_eq_true_eq] at h
        rw [decide_eq_true_eq]
        cases l with
        | nil => simp at h
        | cons s l => exact List.length_pos_of_mem (hl s List.mem_cons_self)
      · rename_i h5
        rw [if_neg h5, if_neg h6] at h
        split
        · rename_i h7
          rw [if_pos h7, Bool.and_eq_true] at h
          rw [Bool.and_eq_true]
          exact ⟨holds_mono hl n _ (nots_kid hn 0) h.1, holds_mono hl n _ (nots_kid hn 1) h.2⟩
        · rename_i h7
          rw [if_neg h7] at h
          split
          · rename_i h8
            rw [if_pos h8, Bool.or_eq_true] at h
            rw [Bool.or_eq_true]
            exact h.imp (holds_mono hl n _ (nots_kid hn 0)) (holds_mono hl n _ (nots_kid hn 1))
          · rfl
theorem has_mono {l l' : List ByteArray} (hl : ∀ s ∈ l, s ∈ l') {e : E} (hn : notsE e = false) (h : hasL l e = true) : hasL l' e = true := by
  unfold hasL at h ⊢
  rw [Bool.and_eq_true, Bool.or_eq_true] at h ⊢
  exact ⟨h.1, h.2.imp id (holds_mono hl 50 e hn)⟩
end Go.Proofs.Ytljkfobgbjnilaa
