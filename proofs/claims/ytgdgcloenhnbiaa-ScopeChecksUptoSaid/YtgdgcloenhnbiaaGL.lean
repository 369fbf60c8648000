/- Plain laws: names sorted; when one stands twice. -/
import Derived.Test.YtgdgcloenhnbiaaWM
import Derived.Test.YtgdgcloenhnbiaaN0
namespace Go.Proofs.Ytgdgcloenhnbiaa
open Go.RowKit Go.Sort
theorem bytesL_inj {s t : ByteArray} (h : bytesL s = bytesL t) : s = t := by
  obtain ⟨⟨a⟩⟩ := s
  obtain ⟨⟨b⟩⟩ := t
  simp only [bytesL] at h
  rw [h]
theorem nodup_bytes {l : List ByteArray} : (l.map bytesL).Nodup ↔ l.Nodup := by
  constructor
  · intro h
    induction l with
    | nil => exact List.nodup_nil
    | cons x l ih =>
      rw [List.map_cons, List.nodup_cons] at h
      exact List.nodup_cons.2 ⟨fun hx => h.1 (List.mem_map_of_mem hx), ih h.2⟩
  · intro h
    induction l with
    | nil => exact List.nodup_nil
    | cons x l ih =>
      rw [List.nodup_cons] at h
      rw [List.map_cons, List.nodup_cons]
      refine ⟨fun hx => ?_, ih h.2⟩
      obtain ⟨y, hy, e⟩ := List.mem_map.1 hx
      exact h.1 (bytesL_inj e ▸ hy)
theorem le_tr : ∀ a b c : List UInt8, decide (a ≤ b) = true → decide (b ≤ c) = true → decide (a ≤ c) = true := fun a b c h1 h2 => by
  simp only [decide_eq_true_eq] at *; exact List.le_trans h1 h2
theorem le_to : ∀ a b : List UInt8, (decide (a ≤ b) || decide (b ≤ a)) = true := fun a b => by
  simp only [Bool.or_eq_true, decide_eq_true_eq]; exact List.le_total a b
theorem bytes_sortB (l : List ByteArray) : (sortB l).map bytesL = (l.map bytesL).mergeSort fun x y => decide (x ≤ y) := by
  unfold sortB
  rw [List.map_map]
  have : bytesL ∘ (fun b : List UInt8 => (⟨b.toArray⟩ : ByteArray)) = id := rfl
  rw [this, List.map_id]
theorem perm_sortB (l : List ByteArray) : (sortB l).Perm l := by
  have h := List.mergeSort_perm (l.map bytesL) fun x y => decide (x ≤ y)
  have h2 := h.map fun b : List UInt8 => (⟨b.toArray⟩ : ByteArray)
  rw [List.map_map] at h2
  have : (fun b : List UInt8 => (⟨b.toArray⟩ : ByteArray)) ∘ bytesL = id := rfl
  rw [this, List.map_id] at h2
  exact h2
theorem sorted_sortB (l : List ByteArray) : ((sortB l).map bytesL).Pairwise (· ≤ ·) := by
  rw [bytes_sortB]
  exact (List.pairwise_mergeSort le_tr le_to _).imp fun h => of_decide_eq_true h
theorem keeps_all {zs : List (List UInt8)} (h : zs.Nodup) : ∀ j ∈ List.range zs.length, Go.Lib.keeps zs.toArray j = true := by
  intro j hj
  rw [List.mem_range] at hj
  simp only [Go.Lib.keeps, decide_eq_true_eq]
  by_cases h0 : j = 0
  · exact .inl h0
  · refine .inr fun e => ?_
    have h1 : zs.toArray[j]! = zs[j] := by simp [hj]
    have h2 : zs.toArray[j - 1]! = zs[j - 1]'(by omega) := by rw [getElem!_pos zs.toArray (j - 1) (by simp; omega)]; simp
    rw [h1, h2] at e
    exact List.pairwise_iff_getElem.1 h (j - 1) j (by omega) hj (by omega) e.symm
theorem compact_len {zs : List (List UInt8)} (hs : zs.Pairwise (· ≤ ·)) : (Go.Lib.compact zs).length < zs.length ↔ ¬ zs.Nodup := by
  have hlen : (Go.Lib.compact zs).length = ((List.range zs.length).filter (Go.Lib.keeps zs.toArray)).length := by
    unfold Go.Lib.compact Go.Lib.compactUpTo; rw [List.length_map]
  have hle := List.length_filter_le (Go.Lib.keeps zs.toArray) (List.range zs.length)
  rw [List.length_range] at hle
  constructor
  · intro h hn
    have h1 := (List.length_filter_eq_length_iff (p := Go.Lib.keeps zs.toArray) (l := List.range zs.length)).2 (keeps_all hn)
    rw [List.length_range] at h1; omega
  · intro hn
    rw [hlen]
    refine Nat.lt_of_le_of_ne hle fun e => hn ?_
    have h1 := (List.length_filter_eq_length_iff (p := Go.Lib.keeps zs.toArray) (l := List.range zs.length)).1 (by rw [List.length_range]; exact e)
    -- neighbours differ, so all do
    have hadj : ∀ (j : Nat) (hj : j + 1 < zs.length), zs[j + 1] ≠ zs[j] := fun j hj e2 => by
      have h2 := h1 (j + 1) (List.mem_range.2 hj)
      simp only [Go.Lib.keeps, decide_eq_true_eq] at h2
      rcases h2 with h2 | h2
      · omega
      · apply h2
        rw [getElem!_pos zs.toArray (j + 1) (by simpa using hj), getElem!_pos zs.toArray (j + 1 - 1) (by simp; omega)]
        simpa using e2
    have hmono : ∀ (i j : Nat) (hi : i < j) (hj : j < zs.length), zs[i] ≤ zs[j] := fun i j hi hj => List.pairwise_iff_getElem.1 hs i j (by omega) hj hi
    have key : ∀ (i j : Nat) (hi : i < zs.length) (hj : j < zs.length), i < j → zs[i] ≠ zs[j] := fun i j hi hj hij e4 => by
      have h3 : zs[j - 1]'(by omega) ≤ zs[j] := hmono (j - 1) j (by omega) hj
      have h4 : zs[i] ≤ zs[j - 1]'(by omega) := by
        by_cases e5 : i = j - 1
        · subst e5; exact List.le_refl _
        · exact hmono i (j - 1) (by omega) (by omega)
      rw [e4] at h4
      have h5 := List.le_antisymm h3 h4
      have := hadj (j - 1) (by omega)
      apply this
      rw [h5]
      congr 1
      omega
    exact List.pairwise_iff_getElem.2 fun i j hi hj hij => key i j hi hj hij
theorem compN_sort (l : List ByteArray) : compN (sortB l) < (sortB l).length ↔ ¬ l.Nodup := by
  have h := compact_len (sorted_sortB l)
  rw [List.length_map] at h
  unfold compN
  rw [h, nodup_bytes, (perm_sortB l).nodup_iff]
end Go.Proofs.Ytgdgcloenhnbiaa
