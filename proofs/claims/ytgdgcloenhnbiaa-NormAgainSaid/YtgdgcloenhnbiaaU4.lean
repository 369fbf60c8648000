/- The walk of NormAgain: it returns true. -/
import Derived.Test.YtgdgcloenhnbiaaVT
namespace Go.Proofs.Ytgdgcloenhnbiaa
open Go.RowKit
set_option maxRecDepth 100000 in
set_option maxHeartbeats 4000000 in
theorem normAgain_v (p : Pt) : CallsV Try.prog 7 [.dat (encP p)] (.val (vB true)) := by
  have hS := shown_v
  have hM := small_v p
  (refine callsV_of_W (Ty := Ty) ty_ok Try.func7 rfl rfl rfl fun w0 S0 => ?_; simp only [argsF, List.zipIdx_cons, List.zipIdx_nil, List.map_cons, List.map_nil, Nat.zero_add])
  cases hs : smallP p with
  | false =>
    rw [hs] at hM
    repeat (first | refine W_seq ?_ | refine W_region ?_ | (refine RL_nil ?_; (first | change W _ _ _ _ _ | change EndQ _ _ _ _ _ _ | change Exists _ | skip)) | (refine isRL ?_; first | refine uMv ?_ | refine uAs ?_ | refine uO ?_ | (refine isBin ?_; first | refine uIb ?_ | refine uBb true ?_ | refine uBb false ?_ | refine uCat ?_ | refine uP ?_ | refine uEq true ?_ | refine uEq false ?_) | (refine isLd ?_; first | refine uLp ?_ | refine uLb ?_ | refine uL1 ?_ | refine uL2 ?_ | refine uP ?_) | (refine isCl ?_; first | refine uC (hS) ?_ | refine uC (hM) ?_ | refine uP ?_ | refine uAk ?_ | refine uA ?_ | refine uA0 ?_ | refine uWl ?_) | (refine isFa ?_; first | refine uP ?_) | (refine isBd ?_; first | refine uBd ?_ | refine uP ?_) | (refine isSl ?_; first | refine uHm ?_ | refine uHd ?_ | refine uP ?_ | refine uH ?_) | (refine isSt ?_; first | refine uSw ?_ | refine uS ?_ | refine uSc ?_) | refine uX ?_ | refine uBu true ?_ | refine uBu false ?_ | refine uBs ?_ | refine uSx ?_ | refine uP ?_ | refine uBx ?_ | refine uN ?_ | refine uON ?_) | refine W_block ?_ | refine W_cond true (by rfl) (fun _ => ?_) (fun h => by cases h) | refine W_cond false (by rfl) (fun h => by cases h) (fun _ => ?_) | (refine W_skip ?_; (first | change W _ _ _ _ _ | change EndQ _ _ _ _ _ _ | change Exists _ | skip)) | (refine W_exit ?_; (first | change W _ _ _ _ _ | change EndQ _ _ _ _ _ _ | change Exists _ | skip)) | (refine W_ret ?_; (first | change W _ _ _ _ _ | change EndQ _ _ _ _ _ _ | change Exists _ | skip)) | refine uAnyL ?_ | refine uAny ?_ | (refine mN ?_; (first | change W _ _ _ _ _ | change EndQ _ _ _ _ _ _ | change Exists _ | skip)) | (refine isD ?_; first | refine mMv ?_ | refine mAs ?_ | refine mO ?_ | (refine imBin ?_; first | refine mIb ?_ | refine mBb true ?_ | refine mBb false ?_ | refine mCat ?_ | refine mP ?_ | refine mEq true ?_ | refine mEq false ?_) | (refine imLd ?_; first | refine mLp ?_ | refine mLb ?_ | refine mL1 ?_ | refine mL2 ?_ | refine mP ?_) | (refine imCl ?_; first | refine mC (hS) ?_ | refine mC (hM) ?_ | refine mP ?_ | refine mA ?_ | refine mA0 ?_) | (refine imFa ?_; first | refine mP ?_) | (refine imBd ?_; first | refine mBd ?_ | refine mP ?_) | (refine imSl ?_; first | refine mHm ?_ | refine mHd ?_ | refine mP ?_ | refine mH ?_) | refine mX ?_ | refine mBu true ?_ | refine mBu false ?_ | refine mBs ?_ | refine mSx ?_ | refine mP ?_ | refine mAl ?_))
    exact end_r (by rfl) rfl
  | true =>
    rw [hs] at hM
    obtain ⟨hr, hz⟩ := small_of hs
    have hN := normal_v p hr (by omega)
    have hA := Lengths_v p hr
    have hB := refLengths_v (normal p) (right_normal p hr)
    rw [len_normal p hr] at hB
    have hP := plain_v (normal p)
    rw [plain_normal p hr] at hP
    have hK := kinds_v (normal p) 0
    rw [kinds_normal p hr] at hK
    obtain ⟨a, ha⟩ : ∃ a : Int, a = (lenP p).low := ⟨_, rfl⟩
    obtain ⟨b, hb⟩ : ∃ b : Int, b = hiI (lenP p).high := ⟨_, rfl⟩
    rw [← ha, ← hb] at hA hB
    have haa : (a == a) = true := beq_self_eq_true a
    have hbb : (b == b) = true := beq_self_eq_true b
    repeat (first | refine W_seq ?_ | refine W_region ?_ | (refine RL_nil ?_; (first | change W _ _ _ _ _ | change EndQ _ _ _ _ _ _ | change Exists _ | skip)) | (refine isRL ?_; first | refine uMv ?_ | refine uAs ?_ | refine uO ?_ | (refine isBin ?_; first | refine uIb ?_ | refine uBb true ?_ | refine uBb false ?_ | refine uCat ?_ | refine uP ?_ | refine uEq true ?_ | refine uEq false ?_) | (refine isLd ?_; first | refine uLp ?_ | refine uLb ?_ | refine uL1 ?_ | refine uL2 ?_ | refine uP ?_) | (refine isCl ?_; first | refine uC (hS) ?_ | refine uC (hM) ?_ | refine uC (hN) ?_ | refine uC (hA) ?_ | refine uC (hB) ?_ | refine uC (hP) ?_ | refine uC (hK) ?_ | refine uP ?_ | refine uAk ?_ | refine uA ?_ | refine uA0 ?_ | refine uWl ?_) | (refine isFa ?_; first | refine uP ?_) | (refine isBd ?_; first | refine uBd ?_ | refine uP ?_) | (refine isSl ?_; first | refine uHm ?_ | refine uHd ?_ | refine uP ?_ | refine uH ?_) | (refine isSt ?_; first | refine uSw ?_ | refine uS ?_ | refine uSc ?_) | refine uX ?_ | refine uBu true ?_ | refine uBu false ?_ | refine uBs ?_ | refine uSx ?_ | refine uP ?_ | refine uBx ?_ | refine uN ?_ | refine uON ?_) | refine W_block ?_ | refine W_cond true (by rfl) (fun _ => ?_) (fun h => by cases h) | refine W_cond false (by rfl) (fun h => by cases h) (fun _ => ?_) | (refine W_skip ?_; (first | change W _ _ _ _ _ | change EndQ _ _ _ _ _ _ | change Exists _ | skip)) | (refine W_exit ?_; (first | change W _ _ _ _ _ | change EndQ _ _ _ _ _ _ | change Exists _ | skip)) | (refine W_ret ?_; (first | change W _ _ _ _ _ | change EndQ _ _ _ _ _ _ | change Exists _ | skip)) | refine uAnyL ?_ | refine uAny ?_ | (refine mN ?_; (first | change W _ _ _ _ _ | change EndQ _ _ _ _ _ _ | change Exists _ | skip)) | (refine isD ?_; first | refine mMv ?_ | refine mAs ?_ | refine mO ?_ | (refine imBin ?_; first | refine mIb ?_ | refine mBb true ?_ | refine mBb false ?_ | refine mCat ?_ | refine mP ?_ | refine mEq true ?_ | refine mEq false ?_) | (refine imLd ?_; first | refine mLp ?_ | refine mLb ?_ | refine mL1 ?_ | refine mL2 ?_ | refine mP ?_) | (refine imCl ?_; first | refine mC (hS) ?_ | refine mC (hM) ?_ | refine mC (hN) ?_ | refine mC (hA) ?_ | refine mC (hB) ?_ | refine mC (hP) ?_ | refine mC (hK) ?_ | refine mP ?_ | refine mA ?_ | refine mA0 ?_) | (refine imFa ?_; first | refine mP ?_) | (refine imBd ?_; first | refine mBd ?_ | refine mP ?_) | (refine imSl ?_; first | refine mHm ?_ | refine mHd ?_ | refine mP ?_ | refine mH ?_) | refine mX ?_ | refine mBu true ?_ | refine mBu false ?_ | refine mBs ?_ | refine mSx ?_ | refine mP ?_ | refine mAl ?_))
    exact end_r (by rfl) rfl
end Go.Proofs.Ytgdgcloenhnbiaa
