/- Walks: may a query be? -/
import Derived.Test.YtgdgcloenhnbiaaG1
import Derived.Test.YtgdgcloenhnbiaaG3

import Derived.Test.YtgdgcloenhnbiaaG5
import Derived.Test.YtgdgcloenhnbiaaVH
import Derived.Test.YtgdgcloenhnbiaaVL
import Derived.Test.YtgdgcloenhnbiaaMB
namespace Go.Proofs.Ytgdgcloenhnbiaa
open Go.RowKit
def namesQ (p : Pt) : List ByteArray := sortB (varsP p)
def headQ (q : Qy) : Bool := (if q.sel = 3 then decide (1 ≤ q.k ∧ q.k ≤ 1000) else decide (q.k = 0)) && decide (0 ≤ q.mode ∧ q.mode ≤ 3) && decide (0 ≤ q.sel ∧ q.sel ≤ 3)
def tailQ (q : Qy) : Int := if compN (namesQ q.pat) < (namesQ q.pat).length then 3 else if endsP q.pat = false then 5 else if 400 < sizeN q.pat then 6 else if (lenP q.pat).high = none ∧ q.mode = 0 ∧ q.sel = 0 then 5 else 0
def checkQ (q : Qy) : Int := if headQ q = false then 1 else if 50 < depthP 50 q.pat then 6 else if rightP q.pat = false then 1 else tailQ q
theorem hi_none {o : Option Nat} (h : o = none) : hiI o < 0 := by subst h; decide
theorem hi_some {o : Option Nat} (h : ¬ o = none) : ¬ hiI o < 0 := by
  cases o with
  | none => exact absurd rfl h
  | some n => show ¬ (n : Int) < 0; omega
theorem in_v (n a b : Int) : CallsV Try.prog 53 [vI n, vI a, vI b] (.val (vB (decide (a ≤ n ∧ n ≤ b)))) := by
  by_cases h : a ≤ n ∧ n ≤ b
  · rw [decide_eq_true h]; exact inY h
  · rw [decide_eq_false h]; exact inO h
theorem hi_iff (o : Option Nat) : (o = none) = (hiI o < 0) := propext ⟨hi_none, fun h => by
  cases o with
  | none => rfl
  | some n => exact absurd h (hi_some (by simp))⟩
def HeadP (q : Qy) : Prop := ((q.sel = 3 ∧ 1 ≤ q.k ∧ q.k ≤ 1000) ∨ (¬ q.sel = 3 ∧ q.k = 0)) ∧ (0 ≤ q.mode ∧ q.mode ≤ 3) ∧ 0 ≤ q.sel ∧ q.sel ≤ 3
theorem head_iff (q : Qy) : headQ q = true ↔ HeadP q := by
  unfold headQ HeadP
  by_cases h : q.sel = 3
  · simp only [if_pos h, Bool.and_eq_true, decide_eq_true_eq]; omega
  · simp only [if_neg h, Bool.and_eq_true, decide_eq_true_eq]; omega
theorem check_n {q : Qy} (h : ¬ HeadP q) : 1 = checkQ q := by
  have : headQ q = false := by
    cases hh : headQ q with
    | false => rfl
    | true => exact absurd ((head_iff q).1 hh) h
  unfold checkQ; rw [if_pos this]
theorem check_d {q : Qy} (h : HeadP q) (hd : 50 < depthP 50 q.pat) : 6 = checkQ q := by
  unfold checkQ; rw [if_neg (by rw [(head_iff q).2 h]; decide), if_pos hd]
theorem check_r {q : Qy} (h : HeadP q) (hd : ¬ 50 < depthP 50 q.pat) (hr : rightP q.pat = false) : 1 = checkQ q := by
  unfold checkQ; rw [if_neg (by rw [(head_iff q).2 h]; decide), if_neg hd, if_pos hr]
set_option maxRecDepth 100000 in
set_option maxHeartbeats 16000000 in
theorem check_v (q : Qy) (hvb : (varsP q.pat).length ≤ 1000000) : CallsV Try.prog 30 [.dat (encQ q)] (.val (vI (checkQ q))) := by
  have hD := DepthP_v q.pat
  have hR := rightP_v q.pat
  have hV := vars_v sorts_v q.pat hvb
  obtain ⟨L, hL⟩ : ∃ L, L = sortB (varsP q.pat) := ⟨_, rfl⟩
  have hLl : L.length ≤ 1000000 := by rw [hL, sortB_len]; exact hvb
  have htail : tailQ q = if compN L < L.length then 3 else if endsP q.pat = false then 5 else if 400 < sizeN q.pat then 6 else if hiI (lenP q.pat).high < 0 ∧ q.mode = 0 ∧ q.sel = 0 then 5 else 0 := by rw [hL]; unfold tailQ namesQ; simp only [hi_iff]
  rw [← hL] at hV
  have hlm : (L.map encS).length = L.length := List.length_map _
  (refine callsV_of_W (Ty := Ty) ty_ok Try.func30 rfl rfl rfl fun w0 S0 => ?_; simp only [argsF, List.zipIdx_cons, List.zipIdx_nil, List.map_cons, List.map_nil, Nat.zero_add])
  repeat' (first | refine W_seq ?_ | refine W_region ?_ | (refine RL_nil ?_; (first | change W _ _ _ _ _ | change EndQ _ _ _ _ _ _ | change Exists _ | change EndG _ _ _ _ _ _ _ _ _ _ | change EndM _ _ _ _ _ _ _ | skip)) | (refine isRL ?_; first | refine uMv ?_ | refine uAs ?_ | refine uO ?_ | (refine isBin ?_; first | refine uBb true ?_ | refine uBb false ?_ | refine uP ?_ | refine uEq true ?_ | refine uEq false ?_) | (refine isLd ?_; first | refine uLp ?_ | refine uLb ?_ | refine uL1 ?_ | refine uL2 ?_ | refine uP ?_) | (refine isCl ?_; first | refine uC (in_v _ _ _) ?_ | refine uC (hD) ?_ | refine uC (hR) ?_ | refine uCO (hV) ?_ | refine uP ?_) | (refine isFa ?_; first | refine uP ?_) | refine uBu true ?_ | refine uBu false ?_ | refine uFld ?_ | refine uP ?_ | refine uBx ?_ | refine uN ?_ | refine uGsD (fun hb => ?_) (fun hb => ?_) | refine uGsE (fun hb => ?_) (fun hb => ?_) | refine uGsN (fun hb => ?_) (fun hb => ?_) | refine uGsND (fun hb => ?_) (fun hb => ?_) | refine uGsNE (fun hb => ?_) (fun hb => ?_) | refine uGsNB (fun hb => ?_) (fun hb => ?_) | refine uGs (fun hb => ?_) (fun hb => ?_)) | refine W_block ?_ | refine W_cond true (by rfl) (fun _ => ?_) (fun h => by cases h) | refine W_cond false (by rfl) (fun h => by cases h) (fun _ => ?_) | (refine W_skip ?_; (first | change W _ _ _ _ _ | change EndQ _ _ _ _ _ _ | change Exists _ | change EndG _ _ _ _ _ _ _ _ _ _ | change EndM _ _ _ _ _ _ _ | skip)) | (refine W_ret ?_; (first | change W _ _ _ _ _ | change EndQ _ _ _ _ _ _ | change Exists _ | change EndG _ _ _ _ _ _ _ _ _ _ | change EndM _ _ _ _ _ _ _ | skip)) | refine wCsD (fun hb => ?_) (fun hb => ?_) | refine wCsE (fun hb => ?_) (fun hb => ?_) | refine wCsN (fun hb => ?_) (fun hb => ?_) | refine wCsND (fun hb => ?_) (fun hb => ?_) | refine wCsNE (fun hb => ?_) (fun hb => ?_) | refine wCsNB (fun hb => ?_) (fun hb => ?_) | refine wCs (fun hb => ?_) (fun hb => ?_))
  all_goals try exact end_r (by rfl) (vI_eq (check_n (by unfold HeadP; omega)))
  all_goals try exact end_r (by rfl) (vI_eq (check_d (by unfold HeadP; omega) (by omega)))
  all_goals try exact end_r (by rfl) (vI_eq (check_r (by unfold HeadP; omega) (by omega) (by assumption)))
  all_goals
    have hr : rightP q.pat = true := by assumption
    have hdef : checkQ q = tailQ q := by
      unfold checkQ
      rw [if_neg (by rw [(head_iff q).2 (by unfold HeadP; omega)]; decide), if_neg (by omega), if_neg (by rw [hr]; decide)]
    rw [htail] at hdef
    have hE := ends_v q.pat hr
    have hS := size_v q.pat hr
    have hN := lengths_v q.pat hr
    by_cases hl0 : L = []
    · clear hL
      subst hl0
      rw [if_neg (by decide)] at hdef
      repeat' (first | refine W_seq ?_ | refine W_region ?_ | (refine RL_nil ?_; (first | change W _ _ _ _ _ | change EndQ _ _ _ _ _ _ | change Exists _ | change EndG _ _ _ _ _ _ _ _ _ _ | change EndM _ _ _ _ _ _ _ | skip)) | (refine isRL ?_; first | refine uMv ?_ | refine uAs ?_ | refine uO ?_ | (refine isBin ?_; first | refine uBb true ?_ | refine uBb false ?_ | refine uP ?_ | refine uEq true ?_ | refine uEq false ?_) | (refine isLd ?_; first | refine uLp ?_ | refine uLb ?_ | refine uL1 ?_ | refine uL2 ?_ | refine uP ?_) | (refine isCl ?_; first | refine uC (clone0_v) ?_ | refine uC (compact0_v) ?_ | refine uC (hE) ?_ | refine uC (hS) ?_ | refine uC (hN) ?_ | refine uP ?_) | (refine isFa ?_; first | refine uP ?_) | refine uBu true ?_ | refine uBu false ?_ | refine uFld ?_ | refine uP ?_ | refine uBx ?_ | refine uN ?_ | refine uGsD (fun hb => ?_) (fun hb => ?_) | refine uGsE (fun hb => ?_) (fun hb => ?_) | refine uGsN (fun hb => ?_) (fun hb => ?_) | refine uGsND (fun hb => ?_) (fun hb => ?_) | refine uGsNE (fun hb => ?_) (fun hb => ?_) | refine uGsNB (fun hb => ?_) (fun hb => ?_) | refine uGs (fun hb => ?_) (fun hb => ?_)) | refine W_block ?_ | refine W_cond true (by rfl) (fun _ => ?_) (fun h => by cases h) | refine W_cond false (by rfl) (fun h => by cases h) (fun _ => ?_) | (refine W_skip ?_; (first | change W _ _ _ _ _ | change EndQ _ _ _ _ _ _ | change Exists _ | change EndG _ _ _ _ _ _ _ _ _ _ | change EndM _ _ _ _ _ _ _ | skip)) | (refine W_ret ?_; (first | change W _ _ _ _ _ | change EndQ _ _ _ _ _ _ | change Exists _ | change EndG _ _ _ _ _ _ _ _ _ _ | change EndM _ _ _ _ _ _ _ | skip)) | refine wCsD (fun hb => ?_) (fun hb => ?_) | refine wCsE (fun hb => ?_) (fun hb => ?_) | refine wCsN (fun hb => ?_) (fun hb => ?_) | refine wCsND (fun hb => ?_) (fun hb => ?_) | refine wCsNE (fun hb => ?_) (fun hb => ?_) | refine wCsNB (fun hb => ?_) (fun hb => ?_) | refine wCs (fun hb => ?_) (fun hb => ?_))
      all_goals exact end_r (by rfl) (vI_eq (by rw [hdef]; (repeat' split) <;> first | rfl | omega | simp_all))
    · have hCl := clone_v L hLl hl0
      refine uCc L hCl comps_v ?_
      repeat' (first | refine W_seq ?_ | refine W_region ?_ | (refine RL_nil ?_; (first | change W _ _ _ _ _ | change EndQ _ _ _ _ _ _ | change Exists _ | change EndG _ _ _ _ _ _ _ _ _ _ | change EndM _ _ _ _ _ _ _ | skip)) | (refine isRL ?_; first | refine uMv ?_ | refine uAs ?_ | refine uO ?_ | (refine isBin ?_; first | refine uBb true ?_ | refine uBb false ?_ | refine uP ?_ | refine uEq true ?_ | refine uEq false ?_) | (refine isLd ?_; first | refine uLp ?_ | refine uLb ?_ | refine uL1 ?_ | refine uL2 ?_ | refine uP ?_) | (refine isCl ?_; first | refine uC (hE) ?_ | refine uC (hS) ?_ | refine uC (hN) ?_ | refine uP ?_) | (refine isFa ?_; first | refine uP ?_) | refine uBu true ?_ | refine uBu false ?_ | refine uFld ?_ | refine uP ?_ | refine uBx ?_ | refine uN ?_ | refine uGsD (fun hb => ?_) (fun hb => ?_) | refine uGsE (fun hb => ?_) (fun hb => ?_) | refine uGsN (fun hb => ?_) (fun hb => ?_) | refine uGsND (fun hb => ?_) (fun hb => ?_) | refine uGsNE (fun hb => ?_) (fun hb => ?_) | refine uGsNB (fun hb => ?_) (fun hb => ?_) | refine uGs (fun hb => ?_) (fun hb => ?_)) | refine W_block ?_ | refine W_cond true (by rfl) (fun _ => ?_) (fun h => by cases h) | refine W_cond false (by rfl) (fun h => by cases h) (fun _ => ?_) | (refine W_skip ?_; (first | change W _ _ _ _ _ | change EndQ _ _ _ _ _ _ | change Exists _ | change EndG _ _ _ _ _ _ _ _ _ _ | change EndM _ _ _ _ _ _ _ | skip)) | (refine W_ret ?_; (first | change W _ _ _ _ _ | change EndQ _ _ _ _ _ _ | change Exists _ | change EndG _ _ _ _ _ _ _ _ _ _ | change EndM _ _ _ _ _ _ _ | skip)) | refine wCsD (fun hb => ?_) (fun hb => ?_) | refine wCsE (fun hb => ?_) (fun hb => ?_) | refine wCsN (fun hb => ?_) (fun hb => ?_) | refine wCsND (fun hb => ?_) (fun hb => ?_) | refine wCsNE (fun hb => ?_) (fun hb => ?_) | refine wCsNB (fun hb => ?_) (fun hb => ?_) | refine wCs (fun hb => ?_) (fun hb => ?_))
      all_goals exact end_r (by rfl) (vI_eq (by rw [hdef]; (repeat' split) <;> first | rfl | omega | simp_all))
end Go.Proofs.Ytgdgcloenhnbiaa
