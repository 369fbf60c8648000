/- Normal patterns are plain. No program in sight. -/
import Derived.Test.YtgdgcloenhnbiaaVM
import Derived.Test.YtgdgcloenhnbiaaN2
namespace Go.Proofs.Ytgdgcloenhnbiaa
open Go.RowKit
theorem plain_open {k : Int} (hk : k = 3 ∨ k = 4) {x : Pt} (h : plainOK x = true) : openP k x ≠ [] ∧ ∀ c ∈ openP k x, c.kind ≠ k ∧ plainOK c = true := by
  unfold openP
  by_cases e : x.kind = k
  · rw [if_pos e]
    have hel : ¬ isElem x = true := by unfold isElem; simp; omega
    rw [plainOK_eq, if_neg hel, if_neg (by omega), Bool.and_eq_true, Bool.and_eq_true, decide_eq_true_eq, List.all_eq_true] at h
    refine ⟨fun e2 => by have := h.2.1; rw [e2] at this; simp at this, fun c hc => ?_⟩
    have := h.2.2 c hc
    rw [Bool.and_eq_true, bne_iff_ne] at this
    exact ⟨fun e2 => this.1 (e2.trans e.symm), this.2⟩
  · rw [if_neg e]
    exact ⟨by simp, fun c hc => by obtain rfl := List.mem_singleton.1 hc; exact ⟨e, h⟩⟩
theorem shell_group {k : Int} (hk : k = 3 ∨ k = 4) (l : List Pt) : patRight (shellP (groupP k l)) = true := by
  rcases hk with rfl | rfl
  · show patRight ⟨3, ⟨#[]⟩, 0, zE, zE, 0, 0, [nodeP]⟩ = true
    decide +kernel
  · show patRight ⟨4, ⟨#[]⟩, 0, zE, zE, 0, 0, [nodeP]⟩ = true
    decide +kernel
theorem shell_quant {m : Int} (hm : m = 1 ∨ m = -1) (b : Pt) : patRight (shellP (quantP b m)) = true := by
  rcases hm with rfl | rfl
  · show patRight ⟨5, ⟨#[]⟩, 0, zE, zE, 0, 1, [nodeP]⟩ = true
    decide +kernel
  · show patRight ⟨5, ⟨#[]⟩, 0, zE, zE, 0, -1, [nodeP]⟩ = true
    decide +kernel
theorem plain_join {k : Int} (hk : k = 3 ∨ k = 4) {l : List Pt} (h : ∀ x ∈ l, plainOK x = true) (hne : l ≠ []) : plainOK (joinP k l) = true := by
  have hop : ∀ c ∈ l.flatMap (openP k), c.kind ≠ k ∧ plainOK c = true := fun c hc => by
    obtain ⟨y, hy, hc⟩ := List.mem_flatMap.1 hc
    exact (plain_open hk (h y hy)).2 c hc
  have hlen : 1 ≤ (l.flatMap (openP k)).length := by
    cases l with
    | nil => exact absurd rfl hne
    | cons x l =>
      have := (plain_open hk (h x List.mem_cons_self)).1
      rw [List.flatMap_cons, List.length_append]
      have := List.length_pos_iff.2 this
      omega
  rcases joinP_eq k l with ⟨p, h1, h2⟩ | ⟨h1, h2⟩
  · rw [h2]; exact (hop p (by rw [h1]; exact List.mem_cons_self)).2
  · rw [h2, plainOK_eq, if_neg (by unfold isElem groupP; rcases hk with rfl | rfl <;> simp), shell_group hk, Bool.true_and, if_neg (by unfold groupP; simp only; omega), Bool.and_eq_true, decide_eq_true_eq, List.all_eq_true]
    refine ⟨by show 1 < (l.flatMap (openP k)).length; omega, fun c hc => ?_⟩
    rw [Bool.and_eq_true, bne_iff_ne]
    exact hop c hc
theorem plain_quant {b : Pt} {m : Int} (hm : m = 1 ∨ m = -1) (h : plainOK b = true) : plainOK (quantP b m) = true := by
  rw [plainOK_eq, if_neg (by unfold isElem quantP; simp), shell_quant hm, Bool.true_and, if_pos (by rfl)]
  unfold quantP
  rcases hm with rfl | rfl <;> simp [h]
theorem plain_tail {b : Pt} (h : plainOK b = true) : ∀ n : Nat, plainOK (tailP b n) = true
  | 0 => plain_quant (.inl rfl) h
  | n + 1 => plain_quant (.inl rfl) (plain_join (.inl rfl) (fun x hx => by
      simp only [List.mem_cons, List.not_mem_nil, or_false] at hx
      rcases hx with rfl | rfl
      · exact h
      · exact plain_tail h n) (by simp))
theorem plain_more {p b : Pt} (h : plainOK b = true) : ∀ x ∈ moreP p b, plainOK x = true := fun x hx => by
  unfold moreP at hx
  split at hx
  · obtain rfl := List.mem_singleton.1 hx; exact plain_quant (.inr rfl) h
  · split at hx
    · obtain rfl := List.mem_singleton.1 hx; exact plain_tail h _
    · cases hx
theorem plain_elem {p : Pt} (h : rightP p = true) (hk : p.kind = 1 ∨ p.kind = 2) : plainOK p = true := by
  rw [plainOK_eq, if_pos (by unfold isElem; rcases hk with k | k <;> simp [k])]
  unfold patRight
  rw [h, depthP_succ, right_elem h hk]
  rfl
theorem plain_normal : ∀ p : Pt, rightP p = true → plainOK (normal p) = true := Pt.ind fun p ih h => by
  have hr := right_kids h
  have hne : ∀ k34 : p.kind = 3 ∨ p.kind = 4, p.kids.map normal ≠ [] := fun k34 e => (right_group h k34).1 (List.map_eq_nil_iff.1 e)
  rcases right_kind h with k | k | k | k | k
  · rw [normal_elem (.inl k)]; exact plain_elem h (.inl k)
  · rw [normal_elem (.inr k)]; exact plain_elem h (.inr k)
  · rw [normal_group (.inl k)]; exact plain_join (.inl k) (fun x hx => by obtain ⟨q, hq, rfl⟩ := List.mem_map.1 hx; exact ih q hq (hr q hq)) (hne (.inl k))
  · rw [normal_group (.inr k)]; exact plain_join (.inr k) (fun x hx => by obtain ⟨q, hq, rfl⟩ := List.mem_map.1 hx; exact ih q hq (hr q hq)) (hne (.inr k))
  · obtain ⟨⟨c, hc, hcr⟩, _, _, h3⟩ := right_quant h k
    have hb := ih c (by rw [hc]; exact List.mem_cons_self) hcr
    rw [normal_quant k hc]
    refine plain_join (.inl rfl) (fun x hx => ?_) (copies_ne h3)
    rcases List.mem_append.1 hx with hx | hx
    · rw [(List.mem_replicate.1 hx).2]; exact hb
    · exact plain_more hb x hx
end Go.Proofs.Ytgdgcloenhnbiaa
