/- Plain laws of labels: beside a wrong one all is wrong. No program in sight. -/
import Derived.Test.YtljkfobgbjnilaaJ2
namespace Go.Proofs.Ytljkfobgbjnilaa
open Go.RowKit
def badL (e : E) : List E := [zE, ⟨4, ⟨#[]⟩, zVal, []⟩, ⟨4, ⟨#[49]⟩, zVal, []⟩, ⟨5, ⟨#[120]⟩, zVal, []⟩, ⟨2, ⟨#[112]⟩, zVal, []⟩, ⟨8, ⟨#[]⟩, zVal, [e]⟩, ⟨6, ⟨#[]⟩, zVal, []⟩]
def wrongL (x e : E) : List E := [notE x, andE e x, orE x e, orE e (notE x)]
theorem bad_term {e x : E} (h : x ∈ badL e) (n : Nat) : term n x = false := by
  cases n with
  | zero => rw [term]
  | succ n =>
    rw [termS]
    simp only [badL, List.mem_cons, List.not_mem_nil, or_false] at h
    rcases h with rfl | rfl | rfl | rfl | rfl | rfl | rfl
    · rfl
    · show ((0 == 0) && bareV zVal && (true == word ⟨#[]⟩) && (true || emptyS ⟨#[]⟩) && true) = false
      rw [word_nil, bare_zero]; rfl
    · show ((0 == 0) && bareV zVal && (true == word ⟨#[49]⟩) && (true || emptyS ⟨#[49]⟩) && true) = false
      have hw : word ⟨#[49]⟩ = false := by rw [word_eq]; decide
      rw [hw, bare_zero]; rfl
    · show ((0 == 0) && bareV zVal && (false == word ⟨#[120]⟩) && (false || emptyS ⟨#[120]⟩) && true) = false
      have hw : emptyS ⟨#[120]⟩ = false := by unfold emptyS; rw [ByteArray.toList_eq]; rfl
      rw [hw]; simp
    · rfl
    · rfl
    · rfl
theorem wrong_right {x e : E} (h : x ∈ badL e) : ∀ w ∈ wrongL x e, labelRight w = false := by
  intro w hw
  simp only [wrongL, List.mem_cons, List.not_mem_nil, or_false] at hw
  rcases hw with rfl | rfl | rfl | rfl
  · rw [right_notE, bad_term h]
  · rw [right_andE, bad_term h, Bool.and_false]
  · rw [right_orE, bad_term h, Bool.false_and]
  · rw [right_orE, term_notE 48, bad_term h, Bool.and_false]
theorem nodes_bad {x e : E} (h : x ∈ badL e) : nodes x ≤ 1 + nodes e := by
  simp only [badL, List.mem_cons, List.not_mem_nil, or_false] at h
  have hp := nodes_pos e
  rcases h with rfl | rfl | rfl | rfl | rfl | rfl | rfl <;> rw [nodes_eq] <;> simp [zE]
theorem nodes_wrong {x e : E} (h : x ∈ badL e) : ∀ w ∈ wrongL x e, nodes w ≤ 4 + 2 * nodes e := by
  intro w hw
  have hb := nodes_bad h
  have h1 : nodes (notE x) = 1 + nodes x := by rw [nodes_eq]; simp [notE]
  simp only [wrongL, List.mem_cons, List.not_mem_nil, or_false] at hw
  rcases hw with rfl | rfl | rfl | rfl
  · omega
  · rw [nodes_eq]; simp [andE]; omega
  · rw [nodes_eq]; simp [orE]; omega
  · rw [nodes_eq]; simp [orE]; omega
theorem has_wrong {l : List ByteArray} {w : E} (h : labelRight w = false) : hasL l w = false := by unfold hasL; rw [h]; rfl
theorem sorted_wrong {w : E} (h : labelRight w = false) : sortedNames w = [] := by unfold sortedNames; rw [h]; rfl
theorem nodes_count {e : E} (h : ¬ 100 < count e) : nodes e ≤ 100 := by unfold count at h; omega
end Go.Proofs.Ytljkfobgbjnilaa
