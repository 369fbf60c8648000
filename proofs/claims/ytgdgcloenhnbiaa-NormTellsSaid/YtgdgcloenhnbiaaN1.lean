/- Plain laws of patterns that are made normal: how many pieces, which elements, how groups go into each other. No program in sight. -/
import Derived.Test.YtgdgcloenhnbiaaN0
namespace Go.Proofs.Ytgdgcloenhnbiaa
open Go.RowKit
def nodesP : Pt → Nat := foldP fun _ ks => 1 + ks.sum
theorem nodesP_eq (p : Pt) : nodesP p = 1 + (p.kids.map nodesP).sum := by unfold nodesP; rw [foldP_eq]
theorem sum_flatMap {α β : Type} (f : α → List β) (g : β → Nat) : ∀ l : List α, ((l.flatMap f).map g).sum = (l.map fun x => ((f x).map g).sum).sum
  | [] => rfl
  | x :: l => by rw [List.flatMap_cons, List.map_append, List.sum_append, sum_flatMap f g l, List.map_cons, List.sum_cons]
theorem sum_le {α : Type} (f g : α → Nat) : ∀ l : List α, (∀ x ∈ l, f x ≤ g x) → (l.map f).sum ≤ (l.map g).sum
  | [], _ => Nat.le_refl _
  | x :: l, h => by
    rw [List.map_cons, List.map_cons, List.sum_cons, List.sum_cons]
    exact Nat.add_le_add (h x List.mem_cons_self) (sum_le f g l fun y hy => h y (List.mem_cons_of_mem _ hy))
theorem mem_sum {α : Type} (f : α → Nat) : ∀ (l : List α) (x : α), x ∈ l → f x ≤ (l.map f).sum
  | y :: l, x, h => by
    rw [List.map_cons, List.sum_cons]
    rcases List.mem_cons.1 h with rfl | h
    · omega
    · have := mem_sum f l x h; omega
theorem length_le_sum {α : Type} (f : α → Nat) : ∀ (l : List α), (∀ x ∈ l, 1 ≤ f x) → l.length ≤ (l.map f).sum
  | [], _ => Nat.le_refl _
  | x :: l, h => by
    rw [List.map_cons, List.sum_cons, List.length_cons]
    have := h x List.mem_cons_self
    have := length_le_sum f l fun y hy => h y (List.mem_cons_of_mem _ hy)
    omega
theorem nodesP_pos (p : Pt) : 1 ≤ nodesP p := by rw [nodesP_eq]; omega
theorem nodes_open (k : Int) (p : Pt) : ((openP k p).map nodesP).sum ≤ nodesP p := by
  unfold openP
  split
  · rw [nodesP_eq p]; omega
  · simp
theorem nodes_opens (k : Int) (l : List Pt) : ((l.flatMap (openP k)).map nodesP).sum ≤ (l.map nodesP).sum := by
  rw [sum_flatMap]; exact sum_le _ _ l fun p _ => nodes_open k p
theorem joinP_eq (k : Int) (l : List Pt) : (∃ p, l.flatMap (openP k) = [p] ∧ joinP k l = p) ∨ ((l.flatMap (openP k)).length ≠ 1 ∧ joinP k l = groupP k (l.flatMap (openP k))) := by
  unfold joinP
  cases h : l.flatMap (openP k) with
  | nil => exact .inr ⟨by simp, rfl⟩
  | cons p r => cases r with
    | nil => exact .inl ⟨p, rfl, rfl⟩
    | cons q r => exact .inr ⟨by simp, rfl⟩
theorem nodes_group (k : Int) (l : List Pt) : nodesP (groupP k l) = 1 + (l.map nodesP).sum := nodesP_eq _
theorem nodes_quant (b : Pt) (m : Int) : nodesP (quantP b m) = 1 + nodesP b := by rw [nodesP_eq]; simp [quantP]
theorem nodes_join (k : Int) (l : List Pt) : nodesP (joinP k l) ≤ 1 + (l.map nodesP).sum := by
  have h := nodes_opens k l
  rcases joinP_eq k l with ⟨p, h1, h2⟩ | ⟨_, h2⟩
  · rw [h1] at h; rw [h2]; simp at h; omega
  · rw [h2, nodes_group]; omega
theorem nodes_tail (b : Pt) : ∀ n : Nat, nodesP (tailP b n) ≤ (n + 1) * (nodesP b + 2)
  | 0 => by rw [tailP, nodes_quant]; omega
  | n + 1 => by
    rw [tailP, nodes_quant]
    have h1 := nodes_join 3 [b, tailP b n]
    have h2 := nodes_tail b n
    simp only [List.map_cons, List.map_nil, List.sum_cons, List.sum_nil] at h1
    have : (n + 1 + 1) * (nodesP b + 2) = (n + 1) * (nodesP b + 2) + (nodesP b + 2) := by rw [Nat.add_mul (n + 1) 1, Nat.one_mul]
    omega
theorem sum_replicate (n m : Nat) : (List.replicate n m).sum = n * m := by simp

/-! ### what a right pattern is -/
theorem right_kids {p : Pt} (h : rightP p = true) : ∀ k ∈ p.kids, rightP k = true := by
  rw [rightP_eq] at h
  intro k hk
  split at h
  · simp only [Bool.and_eq_true, elemOK, List.isEmpty_iff] at h
    rw [h.2.1.1] at hk; cases hk
  · split at h
    · simp only [Bool.and_eq_true, elemOK, List.isEmpty_iff] at h
      rw [h.2.1.1] at hk; cases hk
    · split at h
      · simp only [Bool.and_eq_true] at h
        exact List.all_eq_true.1 h.2 k hk
      · split at h
        · simp only [Bool.and_eq_true] at h
          exact List.all_eq_true.1 h.2 k hk
        · cases h
theorem right_elem {p : Pt} (h : rightP p = true) (hk : p.kind = 1 ∨ p.kind = 2) : p.kids = [] := by
  rw [rightP_eq] at h
  rcases hk with hk | hk
  · rw [if_pos hk] at h
    simp only [Bool.and_eq_true, elemOK, List.isEmpty_iff] at h
    exact h.2.1.1
  · rw [if_neg (by omega), if_pos hk] at h
    simp only [Bool.and_eq_true, elemOK, List.isEmpty_iff] at h
    exact h.2.1.1
theorem right_kind {p : Pt} (h : rightP p = true) : p.kind = 1 ∨ p.kind = 2 ∨ p.kind = 3 ∨ p.kind = 4 ∨ p.kind = 5 := by
  rw [rightP_eq] at h
  by_cases h1 : p.kind = 1; · exact .inl h1
  by_cases h2 : p.kind = 2; · exact .inr (.inl h2)
  by_cases h3 : p.kind = 3; · exact .inr (.inr (.inl h3))
  by_cases h4 : p.kind = 4; · exact .inr (.inr (.inr (.inl h4)))
  by_cases h5 : p.kind = 5; · exact .inr (.inr (.inr (.inr h5)))
  rw [if_neg h1, if_neg h2, if_neg (by omega), if_neg h5] at h; cases h
theorem right_group {p : Pt} (h : rightP p = true) (hk : p.kind = 3 ∨ p.kind = 4) : p.kids ≠ [] ∧ p.min = 0 ∧ p.max = 0 := by
  rw [rightP_eq, if_neg (by omega), if_neg (by omega), if_pos hk] at h
  simp only [Bool.and_eq_true, plainP, beq_iff_eq, Bool.not_eq_true', List.isEmpty_eq_false_iff] at h
  exact ⟨h.1.1.2, h.1.1.1⟩
theorem right_quant {p : Pt} (h : rightP p = true) (hk : p.kind = 5) : (∃ k, p.kids = [k] ∧ rightP k = true) ∧ 0 ≤ p.min ∧ p.min ≤ 20 ∧ (p.max = -1 ∨ (1 ≤ p.max ∧ p.min ≤ p.max ∧ p.max ≤ 20)) := by
  have hr := right_kids h
  rw [rightP_eq, if_neg (by omega), if_neg (by omega), if_neg (by omega), if_pos hk] at h
  simp only [Bool.and_eq_true, quantOK, beq_iff_eq, Bool.or_eq_true, decide_eq_true_eq] at h
  obtain ⟨⟨⟨⟨h1, h2, h3⟩, h4⟩, _⟩, _⟩ := h
  obtain ⟨k, hk⟩ := List.length_eq_one_iff.1 h1
  exact ⟨⟨k, hk, hr k (by rw [hk]; exact List.mem_cons_self)⟩, h2, h3, by omega⟩
theorem right_quant_mk {k : Pt} {mn mx : Int} (h : rightP k = true) (h1 : 0 ≤ mn ∧ mn ≤ 20) (h2 : mx = -1 ∨ (1 ≤ mx ∧ mn ≤ mx ∧ mx ≤ 20)) : rightP ⟨5, ⟨#[]⟩, 0, zE, zE, mn, mx, [k]⟩ = true := by
  have he : emptyS ⟨#[]⟩ = true := by unfold emptyS; rw [ByteArray.toList_eq]; rfl
  have hz : noneE zE = true := by unfold noneE zE zeroV zVal; simp only [he]; decide
  rw [rightP_eq, if_neg (by simp), if_neg (by simp), if_neg (by simp), if_pos rfl]
  simp only [quantOK, bareP, he, hz, List.all_cons, List.all_nil, h, List.length_singleton, decide_true, Bool.and_true, Bool.true_and, BEq.rfl, Bool.and_eq_true, Bool.or_eq_true, decide_eq_true_eq, beq_iff_eq]
  exact ⟨h1, by omega⟩
theorem right_group_mk {k : Int} {l : List Pt} (hk : k = 3 ∨ k = 4) (hne : l ≠ []) (h : ∀ x ∈ l, rightP x = true) : rightP (groupP k l) = true := by
  have he : emptyS ⟨#[]⟩ = true := by unfold emptyS; rw [ByteArray.toList_eq]; rfl
  have hz : noneE zE = true := by unfold noneE zE zeroV zVal; simp only [he]; decide
  have ha : l.all rightP = true := List.all_eq_true.2 h
  rw [rightP_eq]
  unfold groupP
  dsimp only
  rw [if_neg (show ¬ k = 1 by omega), if_neg (show ¬ k = 2 by omega), if_pos hk]
  simp [plainP, bareP, he, hz, ha, hne]
theorem sizeN_pos (p : Pt) : 1 ≤ sizeN p := by rw [sizeN_eq]; omega
theorem sizeN_group {p : Pt} (hk : p.kind ≠ 5) : sizeN p = 1 + (p.kids.map sizeN).sum := by
  rw [sizeN_eq]
  congr 2
  refine List.map_congr_left fun k _ => ?_
  rw [if_neg hk]
theorem sizeN_quant {p k : Pt} (hk : p.kind = 5) (h : p.kids = [k]) : sizeN p = 1 + (sizeN k + 1) * timesP p := by
  rw [sizeN_eq, h]; simp [hk]
theorem size_kid {p k : Pt} (h : rightP p = true) (hk : k ∈ p.kids) : sizeN k < sizeN p := by
  by_cases h5 : p.kind = 5
  · obtain ⟨⟨q, hq, _⟩, h1, h2, h3⟩ := right_quant h h5
    rw [hq] at hk
    obtain rfl := List.mem_singleton.1 hk
    rw [sizeN_quant h5 hq]
    have : 1 ≤ timesP p := by unfold timesP; split <;> omega
    have := Nat.le_mul_of_pos_right (sizeN k + 1) this
    omega
  · rw [sizeN_group h5]
    have := mem_sum sizeN p.kids k hk
    omega
theorem kids_lt {p : Pt} (h : rightP p = true) : p.kids.length < sizeN p := by
  by_cases h5 : p.kind = 5
  · obtain ⟨⟨q, hq, _⟩, h1, h2, h3⟩ := right_quant h h5
    have := size_kid h (k := q) (by rw [hq]; exact List.mem_cons_self)
    have := sizeN_pos q
    rw [hq]; simp only [List.length_singleton]; omega
  · rw [sizeN_group h5]
    have := length_le_sum sizeN p.kids fun x _ => sizeN_pos x
    omega

theorem normal_elem {p : Pt} (hk : p.kind = 1 ∨ p.kind = 2) : normal p = p := by rw [normal_eq, if_neg (by omega), if_neg (by omega)]
theorem normal_group {p : Pt} (hk : p.kind = 3 ∨ p.kind = 4) : normal p = joinP p.kind (p.kids.map normal) := by rw [normal_eq, if_pos hk]
theorem normal_quant {p k : Pt} (hk : p.kind = 5) (h : p.kids = [k]) : normal p = joinP 3 (List.replicate p.min.toNat (normal k) ++ moreP p (normal k)) := by
  rw [normal_eq, if_neg (by omega), if_pos hk, h]; rfl
theorem nodes_more {p : Pt} (b : Pt) (h1 : 0 ≤ p.min) (h3 : p.max = -1 ∨ (1 ≤ p.max ∧ p.min ≤ p.max ∧ p.max ≤ 20)) : p.min.toNat * nodesP b + ((moreP p b).map nodesP).sum ≤ timesP p * (nodesP b + 2) := by
  unfold moreP timesP
  split
  · simp only [List.map_cons, List.map_nil, List.sum_cons, List.sum_nil, nodes_quant]
    rw [show (p.min + 1).toNat = p.min.toNat + 1 by omega, Nat.add_mul, Nat.mul_add]
    omega
  · split
    · simp only [List.map_cons, List.map_nil, List.sum_cons, List.sum_nil, Nat.add_zero]
      have h4 := nodes_tail b (p.max - p.min - 1).toNat
      have e : p.max.toNat = p.min.toNat + ((p.max - p.min - 1).toNat + 1) := by omega
      rw [e, Nat.add_mul]
      have : p.min.toNat * nodesP b ≤ p.min.toNat * (nodesP b + 2) := Nat.mul_le_mul_left _ (by omega)
      omega
    · simp only [List.map_nil, List.sum_nil, Nat.add_zero]
      exact Nat.mul_le_mul (by omega) (by omega)
theorem nodes_normal : ∀ p : Pt, rightP p = true → nodesP (normal p) + 1 ≤ 2 * sizeN p := Pt.ind fun p ih h => by
  have hr := right_kids h
  rcases right_kind h with hk | hk | hk | hk | hk
  · rw [normal_elem (.inl hk), nodesP_eq, right_elem h (.inl hk)]; have := sizeN_pos p; simp; omega
  · rw [normal_elem (.inr hk), nodesP_eq, right_elem h (.inr hk)]; have := sizeN_pos p; simp; omega
  rotate_left 2
  · obtain ⟨⟨k, hkk, hkr⟩, h1, h2, h3⟩ := right_quant h hk
    rw [normal_quant hk hkk, sizeN_quant hk hkk]
    have h4 := ih k (by rw [hkk]; exact List.mem_cons_self) hkr
    have h5 := nodes_join 3 (List.replicate p.min.toNat (normal k) ++ moreP p (normal k))
    have h6 := nodes_more (p := p) (normal k) h1 h3
    rw [List.map_append, List.sum_append, List.map_replicate, sum_replicate] at h5
    have h7 : timesP p * (nodesP (normal k) + 2) ≤ 2 * ((sizeN k + 1) * timesP p) := by
      rw [Nat.mul_comm (sizeN k + 1), ← Nat.mul_assoc, Nat.mul_comm 2, Nat.mul_assoc]
      exact Nat.mul_le_mul_left _ (by omega)
    omega
  all_goals
    rw [normal_group (by omega), sizeN_group (by omega)]
    have h5 := nodes_join p.kind (p.kids.map normal)
    rw [List.map_map] at h5
    have h6 := sum_le (nodesP ∘ normal) (fun k => 2 * sizeN k) p.kids fun k hk => by have := ih k hk (hr k hk); simp only [Function.comp]; omega
    have h7 : (p.kids.map fun k => 2 * sizeN k).sum = 2 * (p.kids.map sizeN).sum := by
      clear h5 h6 ih hr h hk
      induction p.kids with
      | nil => rfl
      | cons x l ih => simp only [List.map_cons, List.sum_cons, ih]; omega
    omega

/-! ### elements -/
theorem elems_open {k : Int} (hk : k ≠ 1 ∧ k ≠ 2) (p : Pt) : (openP k p).flatMap elems = elems p := by
  unfold openP
  split
  · rename_i h
    rw [elems_eq p, if_neg (by unfold isElem; simp [h, hk.1, hk.2])]
  · simp
theorem elems_opens {k : Int} (hk : k ≠ 1 ∧ k ≠ 2) (l : List Pt) : (l.flatMap (openP k)).flatMap elems = l.flatMap elems := by
  rw [List.flatMap_assoc]
  congr 1
  funext p
  exact elems_open hk p
theorem elems_join {k : Int} (hk : k ≠ 1 ∧ k ≠ 2) (l : List Pt) : elems (joinP k l) = l.flatMap elems := by
  rw [← elems_opens hk]
  rcases joinP_eq k l with ⟨p, h1, h2⟩ | ⟨_, h2⟩
  · rw [h1, h2]; simp
  · rw [h2, elems_eq, if_neg (by unfold isElem groupP; simp [hk.1, hk.2])]; rfl
theorem elems_quant (b : Pt) (m : Int) : elems (quantP b m) = elems b := by
  rw [elems_eq, if_neg (by unfold isElem quantP; simp)]; simp [quantP]
theorem elems_tail (b : Pt) : ∀ n : Nat, (elems (tailP b n)).length = (n + 1) * (elems b).length
  | 0 => by rw [tailP, elems_quant]; simp
  | n + 1 => by
    rw [tailP, elems_quant, elems_join (by decide)]
    simp only [List.flatMap_cons, List.flatMap_nil, List.append_nil, List.length_append, elems_tail b n]
    rw [Nat.add_mul (n + 1) 1]; omega
theorem elems_normal_quant {p k : Pt} (hk : p.kind = 5) (h : p.kids = [k]) (h1 : 0 ≤ p.min) : (elems (normal p)).length = (if p.max < 0 then p.min.toNat + 1 else if p.min < p.max then p.max.toNat else p.min.toNat) * (elems (normal k)).length := by
  rw [normal_quant hk h, elems_join (by decide), List.flatMap_append, List.length_append]
  have e1 : ((List.replicate p.min.toNat (normal k)).flatMap elems).length = p.min.toNat * (elems (normal k)).length := by
    rw [List.length_flatMap, List.map_replicate]; simp
  rw [e1]
  unfold moreP
  split
  · simp only [List.flatMap_cons, List.flatMap_nil, List.append_nil, elems_quant, Nat.add_mul]; omega
  · split
    · simp only [List.flatMap_cons, List.flatMap_nil, List.append_nil, elems_tail]
      rw [← Nat.add_mul]; congr 1; omega
    · simp
/-- is there a quantifier? -/
def quantsP : Pt → Bool := foldP fun p ks => p.kind == 5 || ks.any id
theorem quantsP_eq (p : Pt) : quantsP p = (p.kind == 5 || p.kids.any quantsP) := by unfold quantsP; rw [foldP_eq, List.any_map]; rfl
theorem elems_normal : ∀ p : Pt, rightP p = true → quantsP p = false → elems (normal p) = elems p := Pt.ind fun p ih h hq => by
  have hr := right_kids h
  rw [quantsP_eq, Bool.or_eq_false_iff, beq_eq_false_iff_ne, List.any_eq_false] at hq
  rcases right_kind h with hk | hk | hk | hk | hk
  · rw [normal_elem (.inl hk)]
  · rw [normal_elem (.inr hk)]
  rotate_left 2
  · exact absurd hk hq.1
  all_goals
    rw [normal_group (by omega), elems_join (by omega), elems_eq p, if_neg (by unfold isElem; simp [hk]), List.flatMap_map]
    have e : ∀ l : List Pt, (∀ x ∈ l, x ∈ p.kids) → l.flatMap (fun a => elems (normal a)) = l.flatMap elems := by
      intro l
      induction l with
      | nil => intro _; rfl
      | cons x l ihl =>
        intro hl
        rw [List.flatMap_cons, List.flatMap_cons, ihl fun y hy => hl y (List.mem_cons_of_mem _ hy), ih x (hl x List.mem_cons_self) (hr x (hl x List.mem_cons_self)) (by have := hq.2 x (hl x List.mem_cons_self); simpa using this)]
    exact e p.kids fun _ hx => hx

/-! ### groups in groups -/
inductive Flat : Pt → Prop
  | mk (p : Pt) (h1 : p.kind = 3 ∨ p.kind = 4 → ∀ c ∈ p.kids, c.kind ≠ p.kind) (h2 : ∀ c ∈ p.kids, Flat c) : Flat p
theorem Flat.open_ {k : Int} (hk : k = 3 ∨ k = 4) {p : Pt} (h : Flat p) : ∀ c ∈ openP k p, c.kind ≠ k ∧ Flat c := by
  cases h with
  | mk p h1 h2 =>
    intro c hc
    unfold openP at hc
    split at hc
    · rename_i e; exact ⟨fun hck => h1 (by omega) c hc (by omega), h2 c hc⟩
    · rename_i e; obtain rfl := List.mem_singleton.1 hc; exact ⟨e, .mk _ h1 h2⟩
theorem Flat.opens {k : Int} (hk : k = 3 ∨ k = 4) {l : List Pt} (h : ∀ x ∈ l, Flat x) : ∀ c ∈ l.flatMap (openP k), c.kind ≠ k ∧ Flat c := fun c hc => by
  obtain ⟨x, hx, hcx⟩ := List.mem_flatMap.1 hc
  exact (h x hx).open_ hk c hcx
theorem Flat.join {k : Int} (hk : k = 3 ∨ k = 4) {l : List Pt} (h : ∀ x ∈ l, Flat x) : Flat (joinP k l) := by
  have ho := Flat.opens hk h
  rcases joinP_eq k l with ⟨p, h1, h2⟩ | ⟨_, h2⟩
  · rw [h2]; exact (ho p (by rw [h1]; exact List.mem_cons_self)).2
  · rw [h2]; exact .mk _ (fun _ c hc => (ho c hc).1) fun c hc => (ho c hc).2
theorem Flat.quant {b : Pt} (m : Int) (h : Flat b) : Flat (quantP b m) := .mk _ (fun hk => by simp [quantP] at hk) fun c hc => by obtain rfl := List.mem_singleton.1 hc; exact h
theorem Flat.tail {b : Pt} (h : Flat b) : ∀ n : Nat, Flat (tailP b n)
  | 0 => h.quant 1
  | n + 1 => Flat.quant 1 (Flat.join (.inl rfl) fun x hx => by
    rcases List.mem_cons.1 hx with rfl | hx
    · exact h
    · obtain rfl := List.mem_singleton.1 hx; exact Flat.tail h n)
theorem Flat.more {p b : Pt} (h : Flat b) : ∀ x ∈ moreP p b, Flat x := fun x hx => by
  unfold moreP at hx
  split at hx
  · obtain rfl := List.mem_singleton.1 hx; exact h.quant _
  · split at hx
    · obtain rfl := List.mem_singleton.1 hx; exact h.tail _
    · cases hx
theorem flat_normal : ∀ p : Pt, rightP p = true → Flat (normal p) := Pt.ind fun p ih h => by
  have hr := right_kids h
  rcases right_kind h with hk | hk | hk | hk | hk
  · rw [normal_elem (.inl hk)]; exact .mk _ (fun h => by omega) fun c hc => by rw [right_elem h (.inl hk)] at hc; cases hc
  · rw [normal_elem (.inr hk)]; exact .mk _ (fun h => by omega) fun c hc => by rw [right_elem h (.inr hk)] at hc; cases hc
  rotate_left 2
  · obtain ⟨⟨k, hkk, hkr⟩, _⟩ := right_quant h hk
    rw [normal_quant hk hkk]
    have hf := ih k (by rw [hkk]; exact List.mem_cons_self) hkr
    refine Flat.join (.inl rfl) fun x hx => ?_
    rcases List.mem_append.1 hx with hx | hx
    · rw [(List.mem_replicate.1 hx).2]; exact hf
    · exact Flat.more hf x hx
  all_goals
    rw [normal_group (by omega)]
    refine Flat.join (by omega) fun x hx => ?_
    obtain ⟨y, hy, rfl⟩ := List.mem_map.1 hx
    exact ih y hy (hr y hy)
theorem open_id {k : Int} {c : Pt} (h : c.kind ≠ k) : openP k c = [c] := by unfold openP; rw [if_neg h]
theorem open_join {k : Int} (hk : k = 3 ∨ k = 4) {l : List Pt} (h : ∀ x ∈ l, Flat x) : openP k (joinP k l) = l.flatMap (openP k) := by
  have ho := Flat.opens hk h
  rcases joinP_eq k l with ⟨p, h1, h2⟩ | ⟨_, h2⟩
  · rw [h2, h1, open_id (ho p (by rw [h1]; exact List.mem_cons_self)).1]
  · rw [h2]; unfold openP; rw [if_pos (show (groupP k _).kind = k from rfl)]; rfl
theorem join_of {k : Int} {l m : List Pt} (h : l.flatMap (openP k) = m.flatMap (openP k)) : joinP k l = joinP k m := by unfold joinP; rw [h]
theorem groups_1 {k : Int} (hk : k = 3 ∨ k = 4) {p q r : Pt} (hp : Flat p) (hq : Flat q) : joinP k [joinP k [p, q], r] = joinP k [p, q, r] := join_of (by
  have := open_join hk (l := [p, q]) (fun x hx => by simp only [List.mem_cons, List.not_mem_nil, or_false] at hx; rcases hx with rfl | rfl <;> assumption)
  simp [this])
theorem groups_2 {k : Int} (hk : k = 3 ∨ k = 4) {p q r : Pt} (hq : Flat q) (hr : Flat r) : joinP k [p, joinP k [q, r]] = joinP k [p, q, r] := join_of (by
  have := open_join hk (l := [q, r]) (fun x hx => by simp only [List.mem_cons, List.not_mem_nil, or_false] at hx; rcases hx with rfl | rfl <;> assumption)
  simp [this])
theorem flat_one {k : Int} (hk : k = 3 ∨ k = 4) {p : Pt} (hp : Flat p) : Flat (joinP k [p]) := Flat.join hk fun x hx => by obtain rfl := List.mem_singleton.1 hx; exact hp
theorem open_one {k : Int} (hk : k = 3 ∨ k = 4) {p : Pt} (hp : Flat p) : openP k (joinP k [p]) = openP k p := by
  rw [open_join hk fun x hx => by obtain rfl := List.mem_singleton.1 hx; exact hp]; simp
theorem groups_3 {k : Int} (hk : k = 3 ∨ k = 4) {p q r : Pt} (hp : Flat p) (hq : Flat q) (hr : Flat r) : joinP k [joinP k [joinP k [p], joinP k [q], joinP k [joinP k [r]]]] = joinP k [p, q, r] := join_of (by
  rw [List.flatMap_singleton, open_join hk fun x hx => by
    simp only [List.mem_cons, List.not_mem_nil, or_false] at hx
    rcases hx with rfl | rfl | rfl
    · exact flat_one hk hp
    · exact flat_one hk hq
    · exact flat_one hk (flat_one hk hr)]
  simp [open_one hk hp, open_one hk hq, open_one hk (flat_one hk hr), open_one hk hr])
end Go.Proofs.Ytgdgcloenhnbiaa
