/- Regions whose order is open with a tail whose order is not: each of its operations waits for all ahead of it. -/
import Derived.Test.YtjhkehloipmjfaaMD
import Derived.Test.YtjhkehloipmjfaaMR
namespace Go.Proofs.Ytjhkehloipmjfaa
open Go.RowKit
def linOk (n : Nat) (tl : List Oper) : Bool := (List.range tl.length).all fun j => match tl[j]? with
  | some o => (List.range j).all (fun i => onO o (n + i)) && o.after.all fun e => !Region.binds .any e || decide (e.on < n + j)
  | none => false
theorem linOk_at {n : Nat} {tl : List Oper} (h : linOk n tl = true) {j : Nat} {o : Oper} (ho : tl[j]? = some o) : (∀ i, i < j → ∃ e ∈ o.after, Region.binds .any e = true ∧ e.on = n + i) ∧ ∀ e ∈ o.after, Region.binds .any e = true → e.on < n + j := by
  unfold linOk at h
  rw [List.all_eq_true] at h
  have h1 := h j (List.mem_range.2 (List.getElem?_eq_some_iff.1 ho).1)
  rw [ho] at h1
  simp only [Bool.and_eq_true, List.all_eq_true, Array.all_eq_true_iff_forall_mem] at h1
  refine ⟨fun i hi => onO_spec (h1.1 i (List.mem_range.2 hi)), fun e he hb => ?_⟩
  have h5 := h1.2 e he
  rw [hb] at h5; simpa using h5
theorem tail_lin {P : Program} {l tl : List Oper} {QQ : Exit → Act → World → Prop} (hok : linOk l.length tl = true) : ∀ (k j : Nat) (a : Act) (w : World) (listed : Array Bool) (fuel : Nat), j + k = tl.length → k ≤ fuel → listed.size = (l ++ tl).length →
    (∀ i, i < l.length + j → listed.getD i true = true) → (∀ i, l.length + j ≤ i → i < (l ++ tl).length → listed.getD i true = false) → wpList P (l ++ tl).toArray QQ (tl.drop j) a w → wpAny P .any (l ++ tl).toArray QQ fuel listed a w := by
  intro k
  have hsum : (l ++ tl).length = l.length + tl.length := List.length_append
  have tf : ∀ (listed : Array Bool) (j : Nat), listed.size = (l ++ tl).length → j < (l ++ tl).length → (listed.getD j false = listed.getD j true) := by
    intro listed j hsz hj
    have : j < listed.size := by omega
    simp only [Array.getD, this, dif_pos]
  induction k with
  | zero =>
    intro j a w listed fuel hj hf hsz hl hun h
    rw [List.drop_of_length_le (by omega)] at h
    refine wpAny_done ?_ h fuel
    rw [List.eq_nil_iff_forall_not_mem]
    intro i hi
    obtain ⟨h1, q, hq, _⟩ := mem_ready.1 hi
    have hlt : i < (l ++ tl).length := by simpa using (Array.getElem?_eq_some_iff.1 hq).1
    rw [hl i (by omega)] at h1; cases h1
  | succ k ih =>
    intro j a w listed fuel hj hf hsz hl hun h
    obtain ⟨f, rfl⟩ : ∃ f, fuel = f + 1 := ⟨fuel - 1, by omega⟩
    obtain ⟨o, ho⟩ : ∃ o, tl[j]? = some o := ⟨_, List.getElem?_eq_getElem (by omega)⟩
    have hoA : (l ++ tl).toArray[l.length + j]? = some o := by
      rw [List.getElem?_toArray, List.getElem?_append_right (by omega), show l.length + j - l.length = j by omega]; exact ho
    obtain ⟨_, hback⟩ := linOk_at hok ho
    refine ⟨fun hr => ?_, fun i hi => ?_⟩
    · exfalso
      have : l.length + j ∈ Region.ready .any (l ++ tl).toArray listed := mem_ready.2 ⟨hun _ (Nat.le_refl _) (by omega), o, hoA, fun e he hb => by
        have := hback e he hb
        rw [tf listed _ hsz (by omega)]
        exact hl _ this⟩
      rw [hr] at this; cases this
    · obtain ⟨h1, q, hq, hdeps⟩ := mem_ready.1 hi
      have hlt : i < (l ++ tl).length := by simpa using (Array.getElem?_eq_some_iff.1 hq).1
      have hge : l.length + j ≤ i := by
        refine Classical.byContradiction fun hc => ?_
        rw [hl i (by omega)] at h1; cases h1
      have hij : i = l.length + j := by
        refine Classical.byContradiction fun hc => ?_
        have hqt : tl[i - l.length]? = some q := by
          rw [List.getElem?_toArray, List.getElem?_append_right (by omega)] at hq; exact hq
        obtain ⟨e, he, hb, hon⟩ := (linOk_at hok hqt).1 j (by omega)
        have h2 := hdeps e he hb
        rw [hon, tf listed _ hsz (by omega), hun _ (Nat.le_refl _) (by omega)] at h2
        cases h2
      subst hij
      rw [hoA] at hq
      injection hq with hq
      subst hq
      have hd : tl.drop j = o :: tl.drop (j + 1) := by
        have hjt : j < tl.length := by omega
        rw [List.drop_eq_getElem_cons hjt]
        rw [List.getElem?_eq_getElem hjt] at ho
        injection ho with ho
        rw [ho]
      rw [hd] at h
      unfold wpList at h
      have hnext : ∀ a' w', wpList P (l ++ tl).toArray QQ (tl.drop (j + 1)) a' w' → wpAny P .any (l ++ tl).toArray QQ f (listed.setIfInBounds (l.length + j) true) a' w' := fun a' w' h' => by
        refine ih (j + 1) a' w' _ f (by omega) (by omega) (by simpa using hsz) (fun i hi => ?_) (fun i h1 h2 => ?_) h'
        · by_cases e : l.length + j = i
          · subst e
            have : l.length + j < listed.size := by omega
            simp [this]
          · rw [getD_set_ne true e]; exact hl i (by omega)
        · rw [getD_set_ne true (by omega)]; exact hun i (by omega) h2
      unfold wpOp
      simp only [hoA]
      split
      · rename_i hw
        rw [if_pos hw] at h
        exact h.imp (Oper.wp_mono hnext) id
      · rename_i hw
        rw [if_neg hw] at h
        exact hnext _ _ h
theorem dseq_mono {X : Ctx} {ops : Array Oper} {τ0 σB : Obs} {Q Q' : Fr → Obs → Prop} (hq : ∀ fr σ, Q fr σ → Q' fr σ) : ∀ (l : List Oper) (k : Nat) (K : List Cr) (C : Cons) (fr : Fr), DSeq X ops τ0 σB Q k K C l fr → DSeq X ops τ0 σB Q' k K C l fr
  | [], _, _, _, _, h => hq _ _ h
  | _ :: rest, _, _, _, _, ⟨x, eff, hs, h⟩ => ⟨x, eff, hs, dseq_mono hq rest _ _ _ _ h⟩
section
variable {nt : Nat} {w0 : W0} {S0 : Nat → Nat → Prop} {fr : Fr} {σ : Obs}
/-- the front as it comes, the tail in order -/
theorem uLin (n : Nat) {id : Nat} {l l1 l2 : List Oper} {QQ : Exit → Fr → Obs → Prop} (h1 : l.take n = l1) (h2 : l.drop n = l2) (h : DSeq (cx nt w0 S0) l.toArray [] σ (fun fr σ => RL (cx nt w0 S0) l.toArray l2 fr σ (QQ .normal)) 0 [] [] l1 fr)
    (hok : preOk l1 l2 = true := by kernel_rfl) (hlin : linOk l1.length l2 = true := by kernel_rfl) (hne : Nat.blt 0 l2.length = true := by rfl) : W (cx nt w0 S0) (.region id l.toArray true) fr σ QQ := by
  have e : l = l1 ++ l2 := by rw [← h1, ← h2, List.take_append_drop]
  subst e
  refine W_pre (X := cx nt w0 S0) mixed_ [] σ (Nat.le_of_ble_eq_true hne) hok (fun p hp => by cases hp) (fun _ _ h => h) ?_
  refine dseq_mono (fun fr σ hq γ T S w a listed fuel hr hsz hl hun hf => ?_) _ _ _ _ _ h
  exact tail_lin hlin l2.length 0 a w listed fuel (by omega) hf hsz hl hun (hq.out γ T S w a (LQ (cx nt w0 S0) QQ) hr fun γ T S _ _ fr σ hr hq => ⟨γ, T, S, fr, σ, hr, hq⟩)
end
end Go.Proofs.Ytjhkehloipmjfaa
