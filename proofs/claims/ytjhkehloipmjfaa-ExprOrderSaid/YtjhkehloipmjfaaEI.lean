/- Floats: sums and products in either order; a float below 2^63 made whole is a whole number of 64 bits. -/
import Derived.Laws.FloatArith
namespace Go.Proofs.Ytjhkehloipmjfaa
open Ieee
theorem sum_comm (a b : Datum) : a.sum b = b.sum a := by
  cases a <;> cases b <;> try rfl
  · rename_i s m i t n j
    simp only [Datum.sum]
    rw [Int.min_comm j i, Int.add_comm (signed t n _), Bool.and_comm t s]
  · rename_i s t
    simp only [Datum.sum]
    by_cases h : s = t
    · subst h; rfl
    · rw [if_neg h, if_neg (fun e => h e.symm)]
theorem product_comm (a b : Datum) : a.product b = b.product a := by
  cases a <;> cases b <;> try rfl
  · rename_i s m i t n j
    simp only [Datum.product]
    rw [Nat.mul_comm, Int.add_comm, Bool.xor_comm]
  · simp only [Datum.product]
    rw [Bool.xor_comm]
theorem add_comm_f (F : Format) (x y : Nat) : F.add x y = F.add y x := by unfold Format.add; rw [sum_comm]
theorem mul_comm_f (F : Format) (x y : Nat) : F.mul x y = F.mul y x := by unfold Format.mul; rw [product_comm]
theorem log2_bounds {M : Nat} (h : M ≠ 0) : 2 ^ M.log2 ≤ M ∧ M < 2 ^ (M.log2 + 1) := ⟨Nat.log2_self_le h, Nat.lt_log2_self⟩
/-- a number of 53 digits, or less, is written as it is -/
theorem write_whole (s : Bool) (M : Nat) (h0 : M ≠ 0) (hM : M ≤ 2 ^ 63) (hd : ∃ m i, m < 2 ^ 53 ∧ M = m * 2 ^ i) :
    ∃ kept : Nat, Ieee.double.read (Ieee.double.write (.number s M 0)) = .number s kept ((M.log2 : Int) - 52) ∧ (M.log2 ≤ 52 → kept = M * 2 ^ (52 - M.log2)) ∧ (52 < M.log2 → M = kept * 2 ^ (M.log2 - 52)) := by
  obtain ⟨b1, b2⟩ := log2_bounds h0
  have hL : M.log2 ≤ 63 := by
    refine Nat.le_of_lt_succ ?_
    have : 2 ^ M.log2 < 2 ^ 64 := Nat.lt_of_le_of_lt (Nat.le_trans b1 hM) (by decide)
    exact (Nat.pow_lt_pow_iff_right (by decide)).1 this
  have hlast : max ((0 : Int) + M.log2 - (Ieee.double.fractionBits : Int)) Ieee.double.leastPlace = (M.log2 : Int) - 52 := by
    show max ((0 : Int) + M.log2 - ((52 : Nat) : Int)) (2 - 2 ^ (11 - 1) - ((52 : Nat) : Int)) = _
    omega
  obtain ⟨kept, hk, hk1, hk2, hk3, hk4⟩ : ∃ kept, Toward.even.cut s (M <<< (0 - ((M.log2 : Int) - 52)).toNat) (((M.log2 : Int) - 52) - 0).toNat = kept ∧ 2 ^ 52 ≤ kept ∧ kept < 2 ^ 53 ∧ (M.log2 ≤ 52 → kept = M * 2 ^ (52 - M.log2)) ∧ (52 < M.log2 → M = kept * 2 ^ (M.log2 - 52)) := by
    by_cases hc : M.log2 ≤ 52
    · have e1 : (0 - ((M.log2 : Int) - 52)).toNat = 52 - M.log2 := by omega
      have e2 : (((M.log2 : Int) - 52) - 0).toNat = 0 := by omega
      have p1 : 2 ^ M.log2 * 2 ^ (52 - M.log2) = 2 ^ 52 := by rw [← Nat.pow_add]; congr 1; omega
      have p2 : 2 ^ (M.log2 + 1) * 2 ^ (52 - M.log2) = 2 ^ 53 := by rw [← Nat.pow_add]; congr 1; omega
      have hp : 0 < 2 ^ (52 - M.log2) := Nat.two_pow_pos _
      refine ⟨M * 2 ^ (52 - M.log2), ?_, ?_, ?_, fun _ => rfl, fun h => absurd h (by omega)⟩
      · rw [e1, e2, Nat.shiftLeft_eq]
        simp [Toward.cut, Nat.mod_one]
      · rw [← p1]; exact Nat.mul_le_mul_right _ b1
      · rw [← p2]; exact Nat.mul_lt_mul_of_pos_right b2 hp
    · have hc' : 52 < M.log2 := by omega
      have e1 : (0 - ((M.log2 : Int) - 52)).toNat = 0 := by omega
      have e2 : (((M.log2 : Int) - 52) - 0).toNat = M.log2 - 52 := by omega
      have hdvd : 2 ^ (M.log2 - 52) ∣ M := by
        obtain ⟨m, i, hm, rfl⟩ := hd
        have : (m * 2 ^ i).log2 ≤ 52 + i := by
          have h1 : m * 2 ^ i < 2 ^ (53 + i) := by rw [Nat.pow_add]; exact Nat.mul_lt_mul_of_pos_right hm (Nat.two_pow_pos _)
          have h2 : 2 ^ (m * 2 ^ i).log2 < 2 ^ (53 + i) := Nat.lt_of_le_of_lt b1 h1
          have := (Nat.pow_lt_pow_iff_right (by decide : 1 < 2)).1 h2
          omega
        exact Nat.dvd_trans (Nat.pow_dvd_pow 2 (by omega)) (Nat.dvd_mul_left _ _)
      obtain ⟨q, hq⟩ := hdvd
      obtain ⟨L, hLL⟩ : ∃ L, M.log2 = L := ⟨_, rfl⟩
      rw [hLL] at hq b1 b2 hc' e1 e2 hL ⊢
      have hp : 0 < 2 ^ (L - 52) := Nat.two_pow_pos _
      have p1 : 2 ^ (L - 52) * 2 ^ 52 = 2 ^ L := by rw [← Nat.pow_add]; congr 1; omega
      have p2 : 2 ^ (L - 52) * 2 ^ 53 = 2 ^ (L + 1) := by rw [← Nat.pow_add]; congr 1; omega
      refine ⟨q, ?_, ?_, ?_, fun h => absurd h (by omega), fun _ => by rw [Nat.mul_comm]; exact hq⟩
      · rw [e1, e2]
        have hmin : min (L - 52) (L + 2) = L - 52 := by omega
        have hdiv : M / 2 ^ (L - 52) = q := by
          conv => lhs; rw [hq]
          exact Nat.mul_div_cancel_left _ hp
        have hmod : M % 2 ^ (L - 52) = 0 := by
          conv => lhs; rw [hq]
          exact Nat.mul_mod_right _ _
        simp only [Toward.cut, Nat.shiftLeft_zero, hLL, hmin, Nat.one_shiftLeft, hdiv, hmod]
        have h1 : ¬ 2 ^ (L - 52) < 2 * 0 := by omega
        have h2 : (2 ^ (L - 52) == 2 * 0) = false := by rw [beq_eq_false_iff_ne]; omega
        rw [decide_eq_false h1, h2]
        rfl
      · refine Nat.le_of_mul_le_mul_left ?_ hp
        rw [p1, ← hq]; exact b1
      · refine Nat.lt_of_mul_lt_mul_left (a := 2 ^ (L - 52)) ?_
        rw [p2, ← hq]; exact b2
  refine ⟨kept, ?_, hk3, hk4⟩
  have hw : Ieee.double.write (.number s M 0) = Ieee.double.word s ((((M.log2 : Int) - 52 + 1074).toNat) * 2 ^ 52 + kept) := by
    show Ieee.double.nearest s M 0 = _
    unfold Format.nearest
    rw [if_neg h0, hlast]
    simp only [hk]
    show Ieee.double.word s (min ((((M.log2 : Int) - 52) - (2 - 2 ^ (11 - 1) - ((52 : Nat) : Int))).toNat * 2 ^ 52 + kept) ((2 ^ 11 - 1) * 2 ^ 52)) = _
    have e : (((M.log2 : Int) - 52) - (2 - 2 ^ (11 - 1) - ((52 : Nat) : Int))).toNat = ((M.log2 : Int) - 52 + 1074).toNat := by omega
    rw [e, Nat.min_eq_left (by omega)]
  obtain ⟨r, hr⟩ : ∃ r, ((M.log2 : Int) - 52 + 1074).toNat = r := ⟨_, rfl⟩
  have hr1 : r = M.log2 + 1022 := by omega
  rw [hw, hr]
  have hword : Ieee.double.word s (r * 2 ^ 52 + kept) = (if s then 2 ^ 63 else 0) + (r * 2 ^ 52 + kept) := by
    unfold Format.word
    cases s
    · simp
    · rfl
  rw [hword]
  unfold Format.read
  have hsw : Ieee.double.signWeight = 2 ^ 63 := rfl
  have hbi : Ieee.double.binade = 2 ^ 52 := rfl
  have hinf : Ieee.double.infRung = 2047 * 2 ^ 52 := rfl
  have hlp : Ieee.double.leastPlace = -1074 := rfl
  rw [hsw, hbi, hinf, hlp]
  have m1 : ((if s then 2 ^ 63 else 0) + (r * 2 ^ 52 + kept)) % 2 ^ 63 = r * 2 ^ 52 + kept := by
    cases s
    · simp only [Bool.false_eq_true, if_false]; omega
    · simp only [if_true]; omega
  have d1 : (((if s then 2 ^ 63 else 0) + (r * 2 ^ 52 + kept)) / 2 ^ 63 % 2 == 1) = s := by
    cases s
    · simp only [Bool.false_eq_true, if_false, beq_eq_false_iff_ne]; omega
    · simp only [if_true, beq_iff_eq]; omega
  rw [m1, d1]
  simp only
  rw [if_neg (by omega), if_pos (by omega)]
  congr 1
  · omega
  · omega
theorem cut_zero_exact (s : Bool) (M k : Nat) (h : M ≠ 0) : Toward.zero.cut s (M * 2 ^ k) k = M := by
  unfold Toward.cut
  have hp : 0 < 2 ^ k := Nat.two_pow_pos _
  have hn : M * 2 ^ k ≠ 0 := Nat.mul_ne_zero h (by omega)
  have hlog : k ≤ (M * 2 ^ k).log2 := by
    rw [Nat.le_log2 hn]
    exact Nat.le_mul_of_pos_left _ (Nat.pos_of_ne_zero h)
  rw [Nat.min_eq_left (by omega)]
  simp only [Nat.one_shiftLeft, Nat.mul_div_cancel _ hp, Bool.toNat_false, Nat.add_zero]
/-- read back, it is the whole number that was written -/
theorem whole_back (s : Bool) (M : Nat) (hM : M ≤ 2 ^ 63) (hd : ∃ m i, m < 2 ^ 53 ∧ M = m * 2 ^ i) :
    (Ieee.double.read (Ieee.double.write (.number s M 0))).toInt .zero = some (if s then -(M : Int) else M) := by
  by_cases h0 : M = 0
  · subst h0
    cases s <;> decide
  obtain ⟨kept, h1, h2, h3⟩ := write_whole s M h0 hM hd
  rw [h1]
  have hb : signed s M 0 = if s then -(M : Int) else M := by
    unfold signed
    rw [Nat.shiftLeft_zero]
  rw [← hb]
  unfold Datum.toInt
  have : Datum.integral .zero (.number s kept ((M.log2 : Int) - 52)) = .number s M 0 := by
    show Datum.number s (Toward.zero.cut s (kept <<< ((M.log2 : Int) - 52).toNat) (-((M.log2 : Int) - 52)).toNat) 0 = _
    congr 1
    by_cases hc : M.log2 ≤ 52
    · have e1 : ((M.log2 : Int) - 52).toNat = 0 := by omega
      have e2 : (-((M.log2 : Int) - 52)).toNat = 52 - M.log2 := by omega
      rw [e1, e2, Nat.shiftLeft_zero, h2 hc]
      exact cut_zero_exact s M _ h0
    · have e1 : ((M.log2 : Int) - 52).toNat = M.log2 - 52 := by omega
      have e2 : (-((M.log2 : Int) - 52)).toNat = 0 := by omega
      rw [e1, e2, Nat.shiftLeft_eq, ← h3 (by omega)]
      simp [Toward.cut]
  rw [this]
theorem read_bound (f : Nat) {s : Bool} {m : Nat} {i : Int} (h : Ieee.double.read f = .number s m i) : m < 2 ^ 53 := by
  unfold Format.read at h
  simp only at h
  have hb : Ieee.double.binade = 2 ^ 52 := rfl
  split at h
  · injection h with _ h2 _
    omega
  · split at h
    · injection h with _ h2 _
      have := Nat.mod_lt (f % Ieee.double.signWeight) (show 0 < Ieee.double.binade by decide)
      omega
    · split at h <;> cases h
/-- of what lies from -2^63 on below 2^63 the whole number below it is one of 64 bits -/
theorem floor_fits (f : Nat) (hn : Ieee.double.order f f = some .eq) (hg : Ieee.double.order f 4890909195324358656 ≠ some .gt) (hg' : Ieee.double.order f 4890909195324358656 ≠ some .eq) (hl : Ieee.double.order f 14114281232179134464 ≠ some .lt) :
    ∃ n : Int, -9223372036854775808 ≤ n ∧ n ≤ 9223372036854775807 ∧ (Ieee.double.read (Ieee.double.write ((Ieee.double.read f).integral .down))).toInt .zero = some n := by
  have r1 : Ieee.double.read 4890909195324358656 = .number false (2 ^ 52) 11 := by decide
  have r2 : Ieee.double.read 14114281232179134464 = .number true (2 ^ 52) 11 := by decide
  unfold Format.order at hn hg hg' hl
  rw [r1] at hg hg'
  rw [r2] at hl
  cases hf : Ieee.double.read f with
  | nan s t => rw [hf] at hn; cases hn
  | infinity s =>
    rw [hf] at hg hl
    cases s
    · exact absurd rfl hg
    · exact absurd rfl hl
  | number s m i =>
    have hm := read_bound f hf
    rw [hf] at hg hg' hl
    simp only [Datum.order] at hg hg' hl
    -- what is compared
    have hcmp : s = false → 11 ≤ i → m * 2 ^ (i - 11).toNat < 2 ^ 52 := fun hs hi => by
      subst hs
      have e : min i 11 = 11 := by omega
      rw [e] at hg hg'
      simp only [signed, Bool.false_eq_true, if_false, Nat.shiftLeft_eq] at hg hg'
      have e0 : ((11 : Int) - 11).toNat = 0 := by decide
      rw [e0, Nat.pow_zero, Nat.mul_one] at hg hg'
      refine Nat.lt_of_not_le fun hle => ?_
      rcases Nat.lt_or_eq_of_le hle with h | h
      · refine hg ?_
        rw [show compare ((m * 2 ^ (i - 11).toNat : Nat) : Int) ((2 ^ 52 : Nat) : Int) = .gt from by rw [Int.compare_eq_gt]; omega]
      · refine hg' ?_
        rw [← h, show compare ((2 ^ 52 : Nat) : Int) ((2 ^ 52 : Nat) : Int) = .eq from by rw [Int.compare_eq_eq]]
    have hcmp2 : s = true → 11 ≤ i → m * 2 ^ (i - 11).toNat ≤ 2 ^ 52 := fun hs hi => by
      subst hs
      have e : min i 11 = 11 := by omega
      rw [e] at hl
      simp only [signed, if_true, Nat.shiftLeft_eq] at hl
      have e0 : ((11 : Int) - 11).toNat = 0 := by decide
      rw [e0, Nat.pow_zero, Nat.mul_one] at hl
      refine Nat.le_of_not_lt fun hlt => hl ?_
      rw [show compare (-((m * 2 ^ (i - 11).toNat : Nat) : Int)) (-((2 ^ 52 : Nat) : Int)) = .lt from by rw [Int.compare_eq_lt]; omega]
    obtain ⟨M, hM⟩ : ∃ M, Toward.down.cut s (m <<< i.toNat) (-i).toNat = M := ⟨_, rfl⟩
    have hint : Datum.integral .down (.number s m i) = .number s M 0 := by
      show Datum.number s (Toward.down.cut s (m <<< i.toNat) (-i).toNat) 0 = _
      rw [hM]
    have key : (s = false → M < 2 ^ 63) ∧ M ≤ 2 ^ 63 ∧ ∃ m i, m < 2 ^ 53 ∧ M = m * 2 ^ i := by
      by_cases hi : 0 ≤ i
      · have e1 : (-i).toNat = 0 := by omega
        have hM2 : M = m * 2 ^ i.toNat := by
          rw [← hM, e1, Nat.shiftLeft_eq]
          simp [Toward.cut, Nat.mod_one]
        by_cases h11 : 11 ≤ i
        · have e2 : i.toNat = (i - 11).toNat + 11 := by omega
          have hM3 : M = m * 2 ^ (i - 11).toNat * 2 ^ 11 := by rw [hM2, e2, Nat.pow_add, Nat.mul_assoc]
          refine ⟨fun hs => ?_, ?_, m, i.toNat, hm, hM2⟩
          · have := hcmp hs h11
            rw [hM3]
            have : m * 2 ^ (i - 11).toNat * 2 ^ 11 < 2 ^ 52 * 2 ^ 11 := Nat.mul_lt_mul_of_pos_right this (by decide)
            exact Nat.lt_of_lt_of_eq this (by decide)
          · rw [hM3]
            have : m * 2 ^ (i - 11).toNat ≤ 2 ^ 52 := by
              cases s
              · exact Nat.le_of_lt (hcmp rfl h11)
              · exact hcmp2 rfl h11
            exact Nat.le_trans (Nat.mul_le_mul_right _ this) (by decide)
        · have : M < 2 ^ 63 := by
            rw [hM2]
            have h1 : 2 ^ i.toNat ≤ 2 ^ 10 := Nat.pow_le_pow_right (by decide) (by omega)
            have h2 : m * 2 ^ i.toNat ≤ m * 2 ^ 10 := Nat.mul_le_mul_left _ h1
            have h3 : m * 2 ^ 10 < 2 ^ 53 * 2 ^ 10 := Nat.mul_lt_mul_of_pos_right hm (by decide)
            exact Nat.lt_of_lt_of_eq (Nat.lt_of_le_of_lt h2 h3) (by decide)
          exact ⟨fun _ => this, Nat.le_of_lt this, m, i.toNat, hm, hM2⟩
      · have e1 : i.toNat = 0 := by omega
        have hle : M ≤ m + 1 := by
          rw [← hM, e1, Nat.shiftLeft_zero]
          unfold Toward.cut
          have h1 : m / (1 <<< min (-i).toNat (m.log2 + 2)) ≤ m := Nat.div_le_self _ _
          have h2 : ∀ b : Bool, b.toNat ≤ 1 := fun b => by cases b <;> decide
          have := h2 (s && m % (1 <<< min (-i).toNat (m.log2 + 2)) != 0)
          simp only
          omega
        refine ⟨fun _ => by omega, by omega, ?_⟩
        by_cases hlt : M < 2 ^ 53
        · exact ⟨M, 0, hlt, by rw [Nat.pow_zero, Nat.mul_one]⟩
        · exact ⟨1, 53, by decide, by omega⟩
    obtain ⟨k1, k2, k3⟩ := key
    rw [hint, whole_back s M k2 k3]
    refine ⟨_, ?_, ?_, rfl⟩
    · cases s
      · simp only [Bool.false_eq_true, if_false]; omega
      · simp only [if_true]; omega
    · cases s
      · have := k1 rfl
        simp only [Bool.false_eq_true, if_false]; omega
      · simp only [if_true]; omega
end Go.Proofs.Ytjhkehloipmjfaa
