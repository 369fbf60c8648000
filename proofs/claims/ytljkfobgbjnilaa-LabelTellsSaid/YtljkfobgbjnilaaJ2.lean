/- Plain laws of labels: how deep, what holds. No program in sight. -/
import Derived.Test.YtljkfobgbjnilaaJ0
import Derived.IntWalk
namespace Go.Proofs.Ytljkfobgbjnilaa
open Go.RowKit

theorem term_mono : ∀ (n : Nat) {m : Nat} {e : E}, n ≤ m → term n e = true → term m e = true
  | 0, _, e, _, h => by rw [term] at h; cases h
  | n + 1, 0, _, h, _ => by omega
  | n + 1, m + 1, e, hm, h => by
    rw [termS] at h ⊢
    cases har : arity e.kind with
    | none => rw [har] at h; cases h
    | some p =>
      obtain ⟨k, named⟩ := p
      rw [har] at h
      simp only [Bool.and_eq_true, List.all_eq_true] at h ⊢
      exact ⟨h.1, fun q hq => term_mono n (by omega) (h.2 q hq)⟩
theorem kind_of_term {n : Nat} {e : E} (h : term n e = true) : e.kind ≠ 0 := by
  intro hk
  cases n with
  | zero => rw [term] at h; cases h
  | succ n =>
    rw [termS, hk] at h
    cases h
end Go.Proofs.Ytljkfobgbjnilaa
