/- Walks: lengths, by the program and by the document. -/
import Derived.Test.YtgdgcloenhnbiaaVC
import Derived.Test.YtgdgcloenhnbiaaN0
namespace Go.Proofs.Ytgdgcloenhnbiaa
open Go.RowKit
def hiI : Option Nat → Int
  | some h => h
  | none => -1
def encSp (s : Sp) : List D := [.v (.int .i64 s.low), .v (.int .i64 (hiI s.high))]
theorem sat_i {z : Int} {n : Nat} (h : z = n) : (if (1000000 : Int) < z then (1000000 : Int) else z) = ((sat n : Nat) : Int) := by
  subst h; unfold sat; split <;> omega
theorem encSp_eq {s : Sp} {a b : Int} (h1 : a = s.low) (h2 : b = hiI s.high) : [D.v (.int .i64 a), D.v (.int .i64 b)] = encSp s := by subst h1; subst h2; rfl
abbrev di (n : Int) : D := .v (.int .i64 n)
set_option maxRecDepth 100000 in
theorem and_raw (a h b g : Int) (ha : 0 ≤ a ∧ a ≤ 1000000) (hh : -1 ≤ h ∧ h ≤ 1000000) (hb : 0 ≤ b ∧ b ≤ 1000000) (hg : -1 ≤ g ∧ g ≤ 1000000) : CallsV Try.prog 66 [.dat [di a, di h], .dat [di b, di g]] (.val (.dat [di (if 1000000 < a + b then 1000000 else a + b), di (if 0 ≤ h ∧ 0 ≤ g then (if 1000000 < h + g then 1000000 else h + g) else -1)])) := by
  (refine callsV_of_W (Ty := Ty) ty_ok Try.func66 rfl rfl rfl fun w0 S0 => ?_; simp only [argsF, List.zipIdx_cons, List.zipIdx_nil, List.map_cons, List.map_nil, Nat.zero_add])
  by_cases h1 : 0 ≤ h
  · by_cases h2 : 0 ≤ g
    · repeat (first | refine W_seq ?_ | refine W_region ?_ | (refine RL_nil ?_; (first | change W _ _ _ _ _ | change EndQ _ _ _ _ _ _ | change Exists _ | change EndG _ _ _ _ _ _ _ _ _ _ | change EndM _ _ _ _ _ _ _ | skip)) | (refine isRL ?_; first | refine uMv ?_ | refine uO ?_ | (refine isBin ?_; first | refine uIb ?_ | refine uCat ?_ | refine uBb true ?_ | refine uBb false ?_ | refine uP ?_ | refine uEq true ?_ | refine uEq false ?_) | (refine isLd ?_; first | refine uLp ?_ | refine uLb ?_ | refine uL1 ?_ | refine uL2 ?_ | refine uP ?_) | (refine isCl ?_; first | refine uP ?_) | (refine isFa ?_; first | refine uP ?_) | (refine isBd ?_; first | refine uBd ?_ | refine uP ?_) | (refine isSt ?_; first | refine uSw ?_ | refine uS ?_ | refine uSc ?_) | refine uP ?_ | refine uBx ?_ | refine uN ?_ | refine uON ?_) | refine W_cond true (by rfl) (fun _ => ?_) (fun h => by cases h) | refine W_cond false (by rfl) (fun h => by cases h) (fun _ => ?_) | (refine W_skip ?_; (first | change W _ _ _ _ _ | change EndQ _ _ _ _ _ _ | change Exists _ | change EndG _ _ _ _ _ _ _ _ _ _ | change EndM _ _ _ _ _ _ _ | skip)) | (refine W_ret ?_; (first | change W _ _ _ _ _ | change EndQ _ _ _ _ _ _ | change Exists _ | change EndG _ _ _ _ _ _ _ _ _ _ | change EndM _ _ _ _ _ _ _ | skip)))
      exact end_r (by rfl) (by rw [if_pos (show 0 ≤ h ∧ 0 ≤ g from ⟨h1, h2⟩)]; rfl)
    · repeat (first | refine W_seq ?_ | refine W_region ?_ | (refine RL_nil ?_; (first | change W _ _ _ _ _ | change EndQ _ _ _ _ _ _ | change Exists _ | change EndG _ _ _ _ _ _ _ _ _ _ | change EndM _ _ _ _ _ _ _ | skip)) | (refine isRL ?_; first | refine uMv ?_ | refine uO ?_ | (refine isBin ?_; first | refine uIb ?_ | refine uCat ?_ | refine uBb true ?_ | refine uBb false ?_ | refine uP ?_ | refine uEq true ?_ | refine uEq false ?_) | (refine isLd ?_; first | refine uLp ?_ | refine uLb ?_ | refine uL1 ?_ | refine uL2 ?_ | refine uP ?_) | (refine isCl ?_; first | refine uP ?_) | (refine isFa ?_; first | refine uP ?_) | (refine isBd ?_; first | refine uBd ?_ | refine uP ?_) | (refine isSt ?_; first | refine uSw ?_ | refine uS ?_ | refine uSc ?_) | refine uP ?_ | refine uBx ?_ | refine uN ?_ | refine uON ?_) | refine W_cond true (by rfl) (fun _ => ?_) (fun h => by cases h) | refine W_cond false (by rfl) (fun h => by cases h) (fun _ => ?_) | (refine W_skip ?_; (first | change W _ _ _ _ _ | change EndQ _ _ _ _ _ _ | change Exists _ | change EndG _ _ _ _ _ _ _ _ _ _ | change EndM _ _ _ _ _ _ _ | skip)) | (refine W_ret ?_; (first | change W _ _ _ _ _ | change EndQ _ _ _ _ _ _ | change Exists _ | change EndG _ _ _ _ _ _ _ _ _ _ | change EndM _ _ _ _ _ _ _ | skip)))
      exact end_r (by rfl) (by rw [if_neg (show ¬ (0 ≤ h ∧ 0 ≤ g) from fun h => h2 h.2)]; rfl)
  · repeat (first | refine W_seq ?_ | refine W_region ?_ | (refine RL_nil ?_; (first | change W _ _ _ _ _ | change EndQ _ _ _ _ _ _ | change Exists _ | change EndG _ _ _ _ _ _ _ _ _ _ | change EndM _ _ _ _ _ _ _ | skip)) | (refine isRL ?_; first | refine uMv ?_ | refine uO ?_ | (refine isBin ?_; first | refine uIb ?_ | refine uCat ?_ | refine uBb true ?_ | refine uBb false ?_ | refine uP ?_ | refine uEq true ?_ | refine uEq false ?_) | (refine isLd ?_; first | refine uLp ?_ | refine uLb ?_ | refine uL1 ?_ | refine uL2 ?_ | refine uP ?_) | (refine isCl ?_; first | refine uP ?_) | (refine isFa ?_; first | refine uP ?_) | (refine isBd ?_; first | refine uBd ?_ | refine uP ?_) | (refine isSt ?_; first | refine uSw ?_ | refine uS ?_ | refine uSc ?_) | refine uP ?_ | refine uBx ?_ | refine uN ?_ | refine uON ?_) | refine W_cond true (by rfl) (fun _ => ?_) (fun h => by cases h) | refine W_cond false (by rfl) (fun h => by cases h) (fun _ => ?_) | (refine W_skip ?_; (first | change W _ _ _ _ _ | change EndQ _ _ _ _ _ _ | change Exists _ | change EndG _ _ _ _ _ _ _ _ _ _ | change EndM _ _ _ _ _ _ _ | skip)) | (refine W_ret ?_; (first | change W _ _ _ _ _ | change EndQ _ _ _ _ _ _ | change Exists _ | change EndG _ _ _ _ _ _ _ _ _ _ | change EndM _ _ _ _ _ _ _ | skip)))
    exact end_r (by rfl) (by rw [if_neg (show ¬ (0 ≤ h ∧ 0 ≤ g) from fun h => h1 h.1)]; rfl)
set_option maxRecDepth 100000 in
theorem or_raw (a h b g : Int) : CallsV Try.prog 67 [.dat [di a, di h], .dat [di b, di g]] (.val (.dat [di (if b < a then b else a), di (if 0 ≤ h ∧ 0 ≤ g then (if g > h then g else h) else -1)])) := by
  (refine callsV_of_W (Ty := Ty) ty_ok Try.func67 rfl rfl rfl fun w0 S0 => ?_; simp only [argsF, List.zipIdx_cons, List.zipIdx_nil, List.map_cons, List.map_nil, Nat.zero_add])
  by_cases h1 : 0 ≤ h
  · by_cases h2 : 0 ≤ g
    · repeat (first | refine W_seq ?_ | refine W_region ?_ | (refine RL_nil ?_; (first | change W _ _ _ _ _ | change EndQ _ _ _ _ _ _ | change Exists _ | change EndG _ _ _ _ _ _ _ _ _ _ | change EndM _ _ _ _ _ _ _ | skip)) | (refine isRL ?_; first | refine uMv ?_ | refine uO ?_ | (refine isBin ?_; first | refine uBb true ?_ | refine uBb false ?_ | refine uP ?_ | refine uEq true ?_ | refine uEq false ?_) | (refine isLd ?_; first | refine uLp ?_ | refine uLb ?_ | refine uL1 ?_ | refine uL2 ?_ | refine uP ?_) | (refine isCl ?_; first | refine uP ?_) | (refine isFa ?_; first | refine uP ?_) | (refine isBd ?_; first | refine uBd ?_ | refine uP ?_) | (refine isSt ?_; first | refine uSw ?_ | refine uS ?_ | refine uSc ?_) | refine uP ?_ | refine uBx ?_ | refine uN ?_ | refine uON ?_) | refine W_cond true (by rfl) (fun _ => ?_) (fun h => by cases h) | refine W_cond false (by rfl) (fun h => by cases h) (fun _ => ?_) | (refine W_skip ?_; (first | change W _ _ _ _ _ | change EndQ _ _ _ _ _ _ | change Exists _ | change EndG _ _ _ _ _ _ _ _ _ _ | change EndM _ _ _ _ _ _ _ | skip)) | (refine W_ret ?_; (first | change W _ _ _ _ _ | change EndQ _ _ _ _ _ _ | change Exists _ | change EndG _ _ _ _ _ _ _ _ _ _ | change EndM _ _ _ _ _ _ _ | skip)))
      exact end_r (by rfl) (by rw [if_pos (show 0 ≤ h ∧ 0 ≤ g from ⟨h1, h2⟩)]; rfl)
    · repeat (first | refine W_seq ?_ | refine W_region ?_ | (refine RL_nil ?_; (first | change W _ _ _ _ _ | change EndQ _ _ _ _ _ _ | change Exists _ | change EndG _ _ _ _ _ _ _ _ _ _ | change EndM _ _ _ _ _ _ _ | skip)) | (refine isRL ?_; first | refine uMv ?_ | refine uO ?_ | (refine isBin ?_; first | refine uBb true ?_ | refine uBb false ?_ | refine uP ?_ | refine uEq true ?_ | refine uEq false ?_) | (refine isLd ?_; first | refine uLp ?_ | refine uLb ?_ | refine uL1 ?_ | refine uL2 ?_ | refine uP ?_) | (refine isCl ?_; first | refine uP ?_) | (refine isFa ?_; first | refine uP ?_) | (refine isBd ?_; first | refine uBd ?_ | refine uP ?_) | (refine isSt ?_; first | refine uSw ?_ | refine uS ?_ | refine uSc ?_) | refine uP ?_ | refine uBx ?_ | refine uN ?_ | refine uON ?_) | refine W_cond true (by rfl) (fun _ => ?_) (fun h => by cases h) | refine W_cond false (by rfl) (fun h => by cases h) (fun _ => ?_) | (refine W_skip ?_; (first | change W _ _ _ _ _ | change EndQ _ _ _ _ _ _ | change Exists _ | change EndG _ _ _ _ _ _ _ _ _ _ | change EndM _ _ _ _ _ _ _ | skip)) | (refine W_ret ?_; (first | change W _ _ _ _ _ | change EndQ _ _ _ _ _ _ | change Exists _ | change EndG _ _ _ _ _ _ _ _ _ _ | change EndM _ _ _ _ _ _ _ | skip)))
      exact end_r (by rfl) (by rw [if_neg (show ¬ (0 ≤ h ∧ 0 ≤ g) from fun h => h2 h.2)]; rfl)
  · repeat (first | refine W_seq ?_ | refine W_region ?_ | (refine RL_nil ?_; (first | change W _ _ _ _ _ | change EndQ _ _ _ _ _ _ | change Exists _ | change EndG _ _ _ _ _ _ _ _ _ _ | change EndM _ _ _ _ _ _ _ | skip)) | (refine isRL ?_; first | refine uMv ?_ | refine uO ?_ | (refine isBin ?_; first | refine uBb true ?_ | refine uBb false ?_ | refine uP ?_ | refine uEq true ?_ | refine uEq false ?_) | (refine isLd ?_; first | refine uLp ?_ | refine uLb ?_ | refine uL1 ?_ | refine uL2 ?_ | refine uP ?_) | (refine isCl ?_; first | refine uP ?_) | (refine isFa ?_; first | refine uP ?_) | (refine isBd ?_; first | refine uBd ?_ | refine uP ?_) | (refine isSt ?_; first | refine uSw ?_ | refine uS ?_ | refine uSc ?_) | refine uP ?_ | refine uBx ?_ | refine uN ?_ | refine uON ?_) | refine W_cond true (by rfl) (fun _ => ?_) (fun h => by cases h) | refine W_cond false (by rfl) (fun h => by cases h) (fun _ => ?_) | (refine W_skip ?_; (first | change W _ _ _ _ _ | change EndQ _ _ _ _ _ _ | change Exists _ | change EndG _ _ _ _ _ _ _ _ _ _ | change EndM _ _ _ _ _ _ _ | skip)) | (refine W_ret ?_; (first | change W _ _ _ _ _ | change EndQ _ _ _ _ _ _ | change Exists _ | change EndG _ _ _ _ _ _ _ _ _ _ | change EndM _ _ _ _ _ _ _ | skip)))
    exact end_r (by rfl) (by rw [if_neg (show ¬ (0 ≤ h ∧ 0 ≤ g) from fun h => h1 h.1)]; rfl)
set_option maxRecDepth 100000 in
theorem times_raw (a h l m : Int) (h1 : -9223372036854775808 ≤ a * l) (h2 : a * l ≤ 100000000) (h3 : -9223372036854775808 ≤ h * m) (h4 : h * m ≤ 100000000) : CallsV Try.prog 65 [.dat [di a, di h], vI l, vI m] (.val (.dat [di (if 1000000 < a * l then 1000000 else a * l), di (if 0 ≤ h ∧ 0 ≤ m then (if 1000000 < h * m then 1000000 else h * m) else -1)])) := by
  (refine callsV_of_W (Ty := Ty) ty_ok Try.func65 rfl rfl rfl fun w0 S0 => ?_; simp only [argsF, List.zipIdx_cons, List.zipIdx_nil, List.map_cons, List.map_nil, Nat.zero_add])
  by_cases h1 : 0 ≤ h
  · by_cases h2 : 0 ≤ m
    · repeat (first | refine W_seq ?_ | refine W_region ?_ | (refine RL_nil ?_; (first | change W _ _ _ _ _ | change EndQ _ _ _ _ _ _ | change Exists _ | change EndG _ _ _ _ _ _ _ _ _ _ | change EndM _ _ _ _ _ _ _ | skip)) | (refine isRL ?_; first | refine uMv ?_ | refine uO ?_ | (refine isBin ?_; first | refine uIb ?_ | refine uCat ?_ | refine uBb true ?_ | refine uBb false ?_ | refine uP ?_ | refine uEq true ?_ | refine uEq false ?_) | (refine isLd ?_; first | refine uLp ?_ | refine uLb ?_ | refine uL1 ?_ | refine uL2 ?_ | refine uP ?_) | (refine isCl ?_; first | refine uP ?_) | (refine isFa ?_; first | refine uP ?_) | (refine isBd ?_; first | refine uBd ?_ | refine uP ?_) | (refine isSt ?_; first | refine uSw ?_ | refine uS ?_ | refine uSc ?_) | refine uP ?_ | refine uBx ?_ | refine uN ?_ | refine uON ?_) | refine W_cond true (by rfl) (fun _ => ?_) (fun h => by cases h) | refine W_cond false (by rfl) (fun h => by cases h) (fun _ => ?_) | (refine W_skip ?_; (first | change W _ _ _ _ _ | change EndQ _ _ _ _ _ _ | change Exists _ | change EndG _ _ _ _ _ _ _ _ _ _ | change EndM _ _ _ _ _ _ _ | skip)) | (refine W_ret ?_; (first | change W _ _ _ _ _ | change EndQ _ _ _ _ _ _ | change Exists _ | change EndG _ _ _ _ _ _ _ _ _ _ | change EndM _ _ _ _ _ _ _ | skip)))
      exact end_r (by rfl) (by rw [if_pos (show 0 ≤ h ∧ 0 ≤ m from ⟨h1, h2⟩)]; rfl)
    · repeat (first | refine W_seq ?_ | refine W_region ?_ | (refine RL_nil ?_; (first | change W _ _ _ _ _ | change EndQ _ _ _ _ _ _ | change Exists _ | change EndG _ _ _ _ _ _ _ _ _ _ | change EndM _ _ _ _ _ _ _ | skip)) | (refine isRL ?_; first | refine uMv ?_ | refine uO ?_ | (refine isBin ?_; first | refine uIb ?_ | refine uCat ?_ | refine uBb true ?_ | refine uBb false ?_ | refine uP ?_ | refine uEq true ?_ | refine uEq false ?_) | (refine isLd ?_; first | refine uLp ?_ | refine uLb ?_ | refine uL1 ?_ | refine uL2 ?_ | refine uP ?_) | (refine isCl ?_; first | refine uP ?_) | (refine isFa ?_; first | refine uP ?_) | (refine isBd ?_; first | refine uBd ?_ | refine uP ?_) | (refine isSt ?_; first | refine uSw ?_ | refine uS ?_ | refine uSc ?_) | refine uP ?_ | refine uBx ?_ | refine uN ?_ | refine uON ?_) | refine W_cond true (by rfl) (fun _ => ?_) (fun h => by cases h) | refine W_cond false (by rfl) (fun h => by cases h) (fun _ => ?_) | (refine W_skip ?_; (first | change W _ _ _ _ _ | change EndQ _ _ _ _ _ _ | change Exists _ | change EndG _ _ _ _ _ _ _ _ _ _ | change EndM _ _ _ _ _ _ _ | skip)) | (refine W_ret ?_; (first | change W _ _ _ _ _ | change EndQ _ _ _ _ _ _ | change Exists _ | change EndG _ _ _ _ _ _ _ _ _ _ | change EndM _ _ _ _ _ _ _ | skip)))
      exact end_r (by rfl) (by rw [if_neg (show ¬ (0 ≤ h ∧ 0 ≤ m) from fun h => h2 h.2)]; rfl)
  · repeat (first | refine W_seq ?_ | refine W_region ?_ | (refine RL_nil ?_; (first | change W _ _ _ _ _ | change EndQ _ _ _ _ _ _ | change Exists _ | change EndG _ _ _ _ _ _ _ _ _ _ | change EndM _ _ _ _ _ _ _ | skip)) | (refine isRL ?_; first | refine uMv ?_ | refine uO ?_ | (refine isBin ?_; first | refine uIb ?_ | refine uCat ?_ | refine uBb true ?_ | refine uBb false ?_ | refine uP ?_ | refine uEq true ?_ | refine uEq false ?_) | (refine isLd ?_; first | refine uLp ?_ | refine uLb ?_ | refine uL1 ?_ | refine uL2 ?_ | refine uP ?_) | (refine isCl ?_; first | refine uP ?_) | (refine isFa ?_; first | refine uP ?_) | (refine isBd ?_; first | refine uBd ?_ | refine uP ?_) | (refine isSt ?_; first | refine uSw ?_ | refine uS ?_ | refine uSc ?_) | refine uP ?_ | refine uBx ?_ | refine uN ?_ | refine uON ?_) | refine W_cond true (by rfl) (fun _ => ?_) (fun h => by cases h) | refine W_cond false (by rfl) (fun h => by cases h) (fun _ => ?_) | (refine W_skip ?_; (first | change W _ _ _ _ _ | change EndQ _ _ _ _ _ _ | change Exists _ | change EndG _ _ _ _ _ _ _ _ _ _ | change EndM _ _ _ _ _ _ _ | skip)) | (refine W_ret ?_; (first | change W _ _ _ _ _ | change EndQ _ _ _ _ _ _ | change Exists _ | change EndG _ _ _ _ _ _ _ _ _ _ | change EndM _ _ _ _ _ _ _ | skip)))
    exact end_r (by rfl) (by rw [if_neg (show ¬ (0 ≤ h ∧ 0 ≤ m) from fun h => h1 h.1)]; rfl)
theorem to_sp {P : Program} {f : FuncId} {args : List VV} {s : Sp} {a b : Int} (h : CallsV P f args (.val (.dat [di a, di b]))) (h1 : a = s.low) (h2 : b = hiI s.high) : CallsV P f args (.val (.dat (encSp s))) := by subst h1; subst h2; exact h
theorem hiI_le {s : Sp} (h : OkS s) : -1 ≤ hiI s.high ∧ hiI s.high ≤ 1000000 := by
  unfold hiI
  split
  · rename_i a e; have := h.2 a e; omega
  · decide
theorem and_v (s t : Sp) (hs : OkS s) (ht : OkS t) : CallsV Try.prog 66 [.dat (encSp s), .dat (encSp t)] (.val (.dat (encSp (andS s t)))) := by
  have := and_raw s.low (hiI s.high) t.low (hiI t.high) (by have := hs.1; omega) (hiI_le hs) (by have := ht.1; omega) (hiI_le ht)
  refine to_sp this ?_ ?_
  · exact sat_i (by simp)
  · unfold andS hiI andH
    cases s.high <;> cases t.high <;> simp only
    · rfl
    · rfl
    · rfl
    · rw [if_pos (by omega)]; exact sat_i (by simp)
theorem or_v (s t : Sp) : CallsV Try.prog 67 [.dat (encSp s), .dat (encSp t)] (.val (.dat (encSp (orS s t)))) := by
  have := or_raw s.low (hiI s.high) t.low (hiI t.high)
  refine to_sp this ?_ ?_
  · show _ = ((min s.low t.low : Nat) : Int)
    split <;> omega
  · unfold orS hiI orH
    cases s.high <;> cases t.high <;> simp only
    · rfl
    · rfl
    · rfl
    · rw [if_pos (by omega)]; exact max_i _ _
theorem times_v (s : Sp) (hs : OkS s) (l m : Int) (hl : 0 ≤ l ∧ l ≤ 20) (hm : -1 ≤ m ∧ m ≤ 20) : CallsV Try.prog 65 [.dat (encSp s), vI l, vI m] (.val (.dat (encSp (timesS s l m)))) := by
  have e1 : (s.low : Int) * l = ((s.low * l.toNat : Nat) : Int) := by rw [Int.natCast_mul, Int.toNat_of_nonneg hl.1]
  have e2 : s.low * l.toNat ≤ 1000000 * 20 := Nat.mul_le_mul hs.1 (by omega)
  have hq : -20000000 ≤ hiI s.high * m ∧ hiI s.high * m ≤ 20000000 := by
    have := hiI_le hs
    generalize hiI s.high = x at this
    by_cases hx : x = -1
    · subst hx; omega
    · by_cases hm1 : m = -1
      · subst hm1; omega
      · have h0 : 0 ≤ x * m := Int.mul_nonneg (by omega) (by omega)
        have h1 : x * m ≤ 1000000 * 20 := Int.mul_le_mul this.2 hm.2 (by omega) (by omega)
        omega
  have := times_raw s.low (hiI s.high) l m (by rw [e1]; omega) (by rw [e1]; omega) (by omega) (by omega)
  refine to_sp this ?_ ?_
  · exact sat_i e1
  · unfold timesS hiI
    cases s.high with
    | none => simp only [Option.map_none, ite_self]; rfl
    | some h =>
      by_cases hm0 : m < 0
      · simp only [if_pos hm0]; rw [if_neg (by omega)]
      · simp only [if_neg hm0, Option.map_some]
        rw [if_pos (by omega)]
        exact sat_i (by rw [Int.natCast_mul, Int.toNat_of_nonneg (by omega)])
end Go.Proofs.Ytgdgcloenhnbiaa
