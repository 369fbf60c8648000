/- The walk of LabelDeep: it returns true. -/
import Derived.Test.YtljkfobgbjnilaaWC
import Derived.Test.YtljkfobgbjnilaaJ3
namespace Go.Proofs.Ytljkfobgbjnilaa
open Go.RowKit
theorem right_is' (m : Nat) (b : Bool) (h : decide (m < 50) = b) : CallsV Try.prog 19 [.dat (encE (notsN m))] (.val (vB b)) := by rw [← h, ← right_notsN]; exact right_v _
theorem has_is' (l : List ByteArray) (m : Nat) (b : Bool) (h : hasL l (notsN m) = b) : CallsV Try.prog 13 [vL (l.map encS), .dat (encE (notsN m))] (.val (vB b)) := by rw [← h]; exact has_v _ _
set_option maxRecDepth 100000 in
theorem labelDeep_v (n : Int) (has : Bool) : CallsV Try.prog 7 [vI n, vB has] (.val (vB true)) := by
  obtain ⟨m, hm, hle⟩ := and_rem n 60
  have hm' : (IntKind.i64.wrap ((BitVec.ofInt IntKind.i64.bits n &&& BitVec.ofInt IntKind.i64.bits 65535).toNat : Nat)).tmod 61 = (m : Int) := hm
  clear hm
  refine callsV_of_W (Ty := Ty) ty_ok Try.func7 rfl rfl rfl fun w0 S0 => ?_
  simp only [argsF, List.zipIdx_cons, List.zipIdx_nil, List.map_cons, List.map_nil, Nat.zero_add]
  repeat (first | refine uBd ?_ | refine uBs ?_ | refine uI ?_ | refine uB true ?_ | refine uB false ?_ | refine uP ?_ | refine uO ?_ | refine uC (shown_v) ?_ | refine uC (name_v sA) ?_ | refine uX ?_ | refine uLp ?_ | refine uLb ?_ | refine uBx ?_ | refine uSw ?_ | refine uN ?_ | refine uS ?_ | refine uSc ?_ | refine uON ?_ | refine uA ?_ | refine uA0 ?_ | refine uH ?_ | (refine RL_nil ?_; (try simp only [thenQ, blockQ, Nat.reduceEqDiff, reduceIte, if_true, if_false])) | refine W_seq ?_ | refine W_block ?_ | refine W_region ?_ | refine W_cond true (by rfl) (fun _ => ?_) (fun h => by cases h) | refine W_cond false (by rfl) (fun h => by cases h) (fun _ => ?_) | (refine W_skip ?_; (try simp only [thenQ, blockQ, Nat.reduceEqDiff, reduceIte, if_true, if_false])) | (refine W_exit ?_; (try simp only [thenQ, blockQ, Nat.reduceEqDiff, reduceIte, if_true, if_false])) | (refine W_ret ?_; (try simp only [thenQ, blockQ, Nat.reduceEqDiff, reduceIte, if_true, if_false])))
  rw [hm']
  refine W_for (α := Nat) (fun k => [(0, vI m), (1, vB has), (5, vB true), (6, .one (.po 6 0)), (7, vI k)]) (fun k => [(6, .box 28 (encE (notsN k)))]) (fun k => k ≤ m) (fun k => m - k) 0 (Nat.zero_le _) (by (repeat (first | exact sub_nil _ | refine sub_cons (by rfl) ?_))) (by (repeat (first | exact sub_nil _ | refine sub_cons (by rfl) ?_))) ?_
  intro k hk
  by_cases hlt : k < m
  · repeat (first | refine uBd ?_ | refine uBs ?_ | refine uI ?_ | refine uB true ?_ | refine uB false ?_ | refine uP ?_ | refine uO ?_ | refine uC (not_v (notsN k)) ?_ | refine uX ?_ | refine uLp ?_ | refine uLb ?_ | refine uBx ?_ | refine uSw ?_ | refine uN ?_ | refine uS ?_ | refine uSc ?_ | refine uON ?_ | refine uA ?_ | refine uA0 ?_ | refine uH ?_ | (refine RL_nil ?_; (try simp only [thenQ, blockQ, Nat.reduceEqDiff, reduceIte, if_true, if_false])) | refine W_seq ?_ | refine W_block ?_ | refine W_region ?_ | refine W_cond true (by rfl) (fun _ => ?_) (fun h => by cases h) | refine W_cond false (by rfl) (fun h => by cases h) (fun _ => ?_) | (refine W_skip ?_; (try simp only [thenQ, blockQ, Nat.reduceEqDiff, reduceIte, if_true, if_false])) | (refine W_exit ?_; (try simp only [thenQ, blockQ, Nat.reduceEqDiff, reduceIte, if_true, if_false])) | (refine W_ret ?_; (try simp only [thenQ, blockQ, Nat.reduceEqDiff, reduceIte, if_true, if_false])))
    exact ⟨k + 1, by omega, hlt, (by (repeat (first | exact sub_nil _ | refine sub_cons (by rfl) ?_))), (by (repeat (first | exact sub_nil _ | refine sub_cons (by rfl) ?_)))⟩
  · have e : k = m := by omega
    subst e
    clear hm' hlt
    have hN := names_v (notsN k) (names_le_notsN k hle)
    have hlen := sorted_notsN k
    generalize hsn : sortedNames (notsN k) = sn at hN hlen
    have ht2 := tmod2 k
    have hH1 := has_notsN [sB, sA] k
    have hH0 := has_notsN [sB] k
    rw [show [sB, sA].any (sameS sA) = true from anyAB true] at hH1
    rw [show [sB].any (sameS sA) = false from anyAB false] at hH0
    by_cases h50 : k < 50
    · have hR := right_is' k true (decide_eq_true h50)
      rw [decide_eq_true h50, Bool.true_and] at hH1 hH0
      rw [if_pos h50] at hlen
      by_cases hp : k % 2 = 0
      · rw [decide_eq_true hp] at ht2 hH1 hH0
        cases has
        · have hH := has_is' [sB] k false hH0
          repeat (first | refine uBd ?_ | refine uBs ?_ | refine uI ?_ | refine uB true ?_ | refine uB false ?_ | refine uP ?_ | refine uO ?_ | refine uC (hR) ?_ | refine uC (hH) ?_ | refine uC (hN) ?_ | refine uX ?_ | refine uLp ?_ | refine uLb ?_ | refine uBx ?_ | refine uSw ?_ | refine uN ?_ | refine uS ?_ | refine uSc ?_ | refine uON ?_ | refine uA ?_ | refine uA0 ?_ | refine uH ?_ | (refine RL_nil ?_; (try simp only [thenQ, blockQ, Nat.reduceEqDiff, reduceIte, if_true, if_false])) | refine W_seq ?_ | refine W_block ?_ | refine W_region ?_ | refine W_cond true (by rfl) (fun _ => ?_) (fun h => by cases h) | refine W_cond false (by rfl) (fun h => by cases h) (fun _ => ?_) | (refine W_skip ?_; (try simp only [thenQ, blockQ, Nat.reduceEqDiff, reduceIte, if_true, if_false])) | (refine W_exit ?_; (try simp only [thenQ, blockQ, Nat.reduceEqDiff, reduceIte, if_true, if_false])) | (refine W_ret ?_; (try simp only [thenQ, blockQ, Nat.reduceEqDiff, reduceIte, if_true, if_false])))
          exact end_r (by rfl) rfl
        · have hH := has_is' [sB, sA] k true hH1
          repeat (first | refine uBd ?_ | refine uBs ?_ | refine uI ?_ | refine uB true ?_ | refine uB false ?_ | refine uP ?_ | refine uO ?_ | refine uC (hR) ?_ | refine uC (hH) ?_ | refine uC (hN) ?_ | refine uX ?_ | refine uLp ?_ | refine uLb ?_ | refine uBx ?_ | refine uSw ?_ | refine uN ?_ | refine uS ?_ | refine uSc ?_ | refine uON ?_ | refine uA ?_ | refine uA0 ?_ | refine uH ?_ | (refine RL_nil ?_; (try simp only [thenQ, blockQ, Nat.reduceEqDiff, reduceIte, if_true, if_false])) | refine W_seq ?_ | refine W_block ?_ | refine W_region ?_ | refine W_cond true (by rfl) (fun _ => ?_) (fun h => by cases h) | refine W_cond false (by rfl) (fun h => by cases h) (fun _ => ?_) | (refine W_skip ?_; (try simp only [thenQ, blockQ, Nat.reduceEqDiff, reduceIte, if_true, if_false])) | (refine W_exit ?_; (try simp only [thenQ, blockQ, Nat.reduceEqDiff, reduceIte, if_true, if_false])) | (refine W_ret ?_; (try simp only [thenQ, blockQ, Nat.reduceEqDiff, reduceIte, if_true, if_false])))
          exact end_r (by rfl) rfl
      · rw [decide_eq_false hp] at ht2 hH1 hH0
        cases has
        · have hH := has_is' [sB] k true hH0
          repeat (first | refine uBd ?_ | refine uBs ?_ | refine uI ?_ | refine uB true ?_ | refine uB false ?_ | refine uP ?_ | refine uO ?_ | refine uC (hR) ?_ | refine uC (hH) ?_ | refine uC (hN) ?_ | refine uX ?_ | refine uLp ?_ | refine uLb ?_ | refine uBx ?_ | refine uSw ?_ | refine uN ?_ | refine uS ?_ | refine uSc ?_ | refine uON ?_ | refine uA ?_ | refine uA0 ?_ | refine uH ?_ | (refine RL_nil ?_; (try simp only [thenQ, blockQ, Nat.reduceEqDiff, reduceIte, if_true, if_false])) | refine W_seq ?_ | refine W_block ?_ | refine W_region ?_ | refine W_cond true (by rfl) (fun _ => ?_) (fun h => by cases h) | refine W_cond false (by rfl) (fun h => by cases h) (fun _ => ?_) | (refine W_skip ?_; (try simp only [thenQ, blockQ, Nat.reduceEqDiff, reduceIte, if_true, if_false])) | (refine W_exit ?_; (try simp only [thenQ, blockQ, Nat.reduceEqDiff, reduceIte, if_true, if_false])) | (refine W_ret ?_; (try simp only [thenQ, blockQ, Nat.reduceEqDiff, reduceIte, if_true, if_false])))
          exact end_r (by rfl) rfl
        · have hH := has_is' [sB, sA] k false hH1
          repeat (first | refine uBd ?_ | refine uBs ?_ | refine uI ?_ | refine uB true ?_ | refine uB false ?_ | refine uP ?_ | refine uO ?_ | refine uC (hR) ?_ | refine uC (hH) ?_ | refine uC (hN) ?_ | refine uX ?_ | refine uLp ?_ | refine uLb ?_ | refine uBx ?_ | refine uSw ?_ | refine uN ?_ | refine uS ?_ | refine uSc ?_ | refine uON ?_ | refine uA ?_ | refine uA0 ?_ | refine uH ?_ | (refine RL_nil ?_; (try simp only [thenQ, blockQ, Nat.reduceEqDiff, reduceIte, if_true, if_false])) | refine W_seq ?_ | refine W_block ?_ | refine W_region ?_ | refine W_cond true (by rfl) (fun _ => ?_) (fun h => by cases h) | refine W_cond false (by rfl) (fun h => by cases h) (fun _ => ?_) | (refine W_skip ?_; (try simp only [thenQ, blockQ, Nat.reduceEqDiff, reduceIte, if_true, if_false])) | (refine W_exit ?_; (try simp only [thenQ, blockQ, Nat.reduceEqDiff, reduceIte, if_true, if_false])) | (refine W_ret ?_; (try simp only [thenQ, blockQ, Nat.reduceEqDiff, reduceIte, if_true, if_false])))
          exact end_r (by rfl) rfl
    · have hR := right_is' k false (decide_eq_false h50)
      rw [decide_eq_false h50, Bool.false_and] at hH1 hH0
      rw [if_neg h50] at hlen
      cases has
      · have hH := has_is' [sB] k false hH0
        repeat (first | refine uBd ?_ | refine uBs ?_ | refine uI ?_ | refine uB true ?_ | refine uB false ?_ | refine uP ?_ | refine uO ?_ | refine uC (hR) ?_ | refine uC (hH) ?_ | refine uC (hN) ?_ | refine uX ?_ | refine uLp ?_ | refine uLb ?_ | refine uBx ?_ | refine uSw ?_ | refine uN ?_ | refine uS ?_ | refine uSc ?_ | refine uON ?_ | refine uA ?_ | refine uA0 ?_ | refine uH ?_ | (refine RL_nil ?_; (try simp only [thenQ, blockQ, Nat.reduceEqDiff, reduceIte, if_true, if_false])) | refine W_seq ?_ | refine W_block ?_ | refine W_region ?_ | refine W_cond true (by rfl) (fun _ => ?_) (fun h => by cases h) | refine W_cond false (by rfl) (fun h => by cases h) (fun _ => ?_) | (refine W_skip ?_; (try simp only [thenQ, blockQ, Nat.reduceEqDiff, reduceIte, if_true, if_false])) | (refine W_exit ?_; (try simp only [thenQ, blockQ, Nat.reduceEqDiff, reduceIte, if_true, if_false])) | (refine W_ret ?_; (try simp only [thenQ, blockQ, Nat.reduceEqDiff, reduceIte, if_true, if_false])))
        exact end_r (by rfl) rfl
      · have hH := has_is' [sB, sA] k false hH1
        repeat (first | refine uBd ?_ | refine uBs ?_ | refine uI ?_ | refine uB true ?_ | refine uB false ?_ | refine uP ?_ | refine uO ?_ | refine uC (hR) ?_ | refine uC (hH) ?_ | refine uC (hN) ?_ | refine uX ?_ | refine uLp ?_ | refine uLb ?_ | refine uBx ?_ | refine uSw ?_ | refine uN ?_ | refine uS ?_ | refine uSc ?_ | refine uON ?_ | refine uA ?_ | refine uA0 ?_ | refine uH ?_ | (refine RL_nil ?_; (try simp only [thenQ, blockQ, Nat.reduceEqDiff, reduceIte, if_true, if_false])) | refine W_seq ?_ | refine W_block ?_ | refine W_region ?_ | refine W_cond true (by rfl) (fun _ => ?_) (fun h => by cases h) | refine W_cond false (by rfl) (fun h => by cases h) (fun _ => ?_) | (refine W_skip ?_; (try simp only [thenQ, blockQ, Nat.reduceEqDiff, reduceIte, if_true, if_false])) | (refine W_exit ?_; (try simp only [thenQ, blockQ, Nat.reduceEqDiff, reduceIte, if_true, if_false])) | (refine W_ret ?_; (try simp only [thenQ, blockQ, Nat.reduceEqDiff, reduceIte, if_true, if_false])))
        exact end_r (by rfl) rfl
end Go.Proofs.Ytljkfobgbjnilaa
