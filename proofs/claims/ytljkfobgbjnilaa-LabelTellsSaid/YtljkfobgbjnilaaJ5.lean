/- Plain laws of labels: not, and, or. No program in sight. -/
import Derived.Test.YtljkfobgbjnilaaJ2
namespace Go.Proofs.Ytljkfobgbjnilaa
open Go.RowKit
theorem kid_at {e : E} {i : Nat} (h : i < e.kids.length) : kidE e i ∈ e.kids := by
  unfold kidE
  rw [List.getElem?_eq_getElem h, Option.getD_some]
  exact List.getElem_mem h
theorem term_kids {n : Nat} {e : E} (h : term (n + 1) e = true) : (e.kind = 6 → term n (kidE e 0) = true) ∧ ((e.kind = 7 ∨ e.kind = 8) → term n (kidE e 0) = true ∧ term n (kidE e 1) = true) := by
  rw [termS] at h
  constructor
  · intro hk
    rw [hk] at h
    have h' : (e.kids.length == 1 && bareV e.val && (false == word e.name) && (false || emptyS e.name) && e.kids.all (term n)) = true := h
    simp only [Bool.and_eq_true, beq_iff_eq, List.all_eq_true] at h'
    exact h'.2 _ (kid_at (by omega))
  · intro hk
    have h' : (e.kids.length == 2 && bareV e.val && (false == word e.name) && (false || emptyS e.name) && e.kids.all (term n)) = true := by rcases hk with hk | hk <;> (rw [hk] at h; exact h)
    simp only [Bool.and_eq_true, beq_iff_eq, List.all_eq_true] at h'
    exact ⟨h'.2 _ (kid_at (by omega)), h'.2 _ (kid_at (by omega))⟩
theorem holds_stable (l : List ByteArray) : ∀ (m n : Nat) (e : E), term m e = true → m ≤ n → holdsN n l e = holdsN m l e
  | 0, _, e, h, _ => by rw [term] at h; cases h
  | m + 1, 0, _, _, h => by omega
  | m + 1, n + 1, e, h, hle => by
    obtain ⟨h6, h78⟩ := term_kids h
    rw [holdsN, holdsN]
    split
    · rfl
    split
    · rfl
    split
    · rename_i hk; rw [holds_stable l m n _ (h6 hk) (by omega)]
    split
    · rename_i hk
      obtain ⟨a, b⟩ := h78 (.inl hk)
      rw [holds_stable l m n _ a (by omega), holds_stable l m n _ b (by omega)]
    split
    · rename_i hk
      obtain ⟨a, b⟩ := h78 (.inr hk)
      rw [holds_stable l m n _ a (by omega), holds_stable l m n _ b (by omega)]
    · rfl
theorem has_of_term {l : List ByteArray} {e : E} (h : term 40 e = true) : hasL l e = holdsN 40 l e := by
  have hk := kind_of_term h
  unfold hasL labelRight
  rw [if_neg hk, term_mono 40 (by omega) h, beq_eq_false_iff_ne.2 hk, holds_stable l 40 50 e h (by omega)]; rfl
section
variable {l : List ByteArray} {a b : E} (ha : term 40 a = true) (hb : term 40 b = true)
include ha
theorem lg_not : hasL l (notE a) = !holdsN 40 l a := by rw [has_notE, term_mono 40 (by omega) ha, holds_stable l 40 49 a ha (by omega)]; rfl
include hb
theorem lg_and : hasL l (andE a b) = (holdsN 40 l a && holdsN 40 l b) := by rw [has_andE, term_mono 40 (by omega) ha, term_mono 40 (by omega) hb, holds_stable l 40 49 a ha (by omega), holds_stable l 40 49 b hb (by omega)]; rfl
theorem lg_or : hasL l (orE a b) = (holdsN 40 l a || holdsN 40 l b) := by rw [has_orE, term_mono 40 (by omega) ha, term_mono 40 (by omega) hb, holds_stable l 40 49 a ha (by omega), holds_stable l 40 49 b hb (by omega)]; rfl
theorem lg_notand : hasL l (notE (andE a b)) = !(holdsN 40 l a && holdsN 40 l b) := by
  rw [has_notE, term_andE 48, holds_andE 48, term_mono 40 (by omega) ha, term_mono 40 (by omega) hb, holds_stable l 40 48 a ha (by omega), holds_stable l 40 48 b hb (by omega)]; rfl
theorem lg_notor : hasL l (notE (orE a b)) = !(holdsN 40 l a || holdsN 40 l b) := by
  rw [has_notE, term_orE 48, holds_orE 48, term_mono 40 (by omega) ha, term_mono 40 (by omega) hb, holds_stable l 40 48 a ha (by omega), holds_stable l 40 48 b hb (by omega)]; rfl
theorem lg_ornots : hasL l (orE (notE a) (notE b)) = (!holdsN 40 l a || !holdsN 40 l b) := by
  rw [has_orE, term_notE 48, term_notE 48, holds_notE 48, holds_notE 48, term_mono 40 (by omega) ha, term_mono 40 (by omega) hb, holds_stable l 40 48 a ha (by omega), holds_stable l 40 48 b hb (by omega)]; rfl
theorem lg_andnots : hasL l (andE (notE a) (notE b)) = (!holdsN 40 l a && !holdsN 40 l b) := by
  rw [has_andE, term_notE 48, term_notE 48, holds_notE 48, holds_notE 48, term_mono 40 (by omega) ha, term_mono 40 (by omega) hb, holds_stable l 40 48 a ha (by omega), holds_stable l 40 48 b hb (by omega)]; rfl
end
end Go.Proofs.Ytljkfobgbjnilaa
