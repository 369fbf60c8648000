/- The walk of NormTimes: it returns true. -/
import Derived.Test.YtgdgcloenhnbiaaVT
namespace Go.Proofs.Ytgdgcloenhnbiaa
open Go.RowKit
theorem and_rem7 (n : Int) : ∃ k : Nat, (IntKind.i64.wrap ((BitVec.ofInt IntKind.i64.bits n &&& BitVec.ofInt IntKind.i64.bits 255).toNat : Nat)).tmod 7 = (k : Int) ∧ k ≤ 6 := by
  have hb : (BitVec.ofInt IntKind.i64.bits n &&& BitVec.ofInt IntKind.i64.bits 255).toNat ≤ 255 := by
    rw [BitVec.toNat_and]
    have : (BitVec.ofInt IntKind.i64.bits 255).toNat = 255 := by decide
    rw [this]
    exact Nat.and_le_right
  generalize (BitVec.ofInt IntKind.i64.bits n &&& BitVec.ofInt IntKind.i64.bits 255).toNat = z at hb
  rw [IntWalk.i64_in (z : Int) (by omega)]
  refine ⟨z % 7, ?_, by omega⟩
  rw [Int.tmod_eq_emod_of_nonneg (by omega)]
  omega
theorem elems_le : ∀ p : Pt, (elems p).length ≤ nodesP p := Pt.ind fun p ih => by
  rw [elems_eq, nodesP_eq]
  split
  · simp
  · rw [List.length_flatMap]
    have := sum_le (fun k => (elems k).length) nodesP p.kids ih
    omega
section
variable {X : Ctx} {fr : Fr} {σ : Obs} {o : Oper} {ops : Array Oper} {rest : List Oper} {Q : Fr → Obs → Prop} {w0 : World} {S0 : Nat → Nat → Prop} {nt : Nat}
theorem run_max_int3 {P : Program} (w : World) (ts : Array TypeId) (t : TypeId) (k k' k'' : IntKind) (x y z : Int) :
    (Builtin.max_ ts t #[.int k x, .int k' y, .int k'' z]).run P w = .ok (.int k (if z > (if y > x then y else x) then z else (if y > x then y else x))) w := by
  simp [Builtin.max_, Builtin.max2]
theorem RL_max3 {d : Nat} {ts : Array TypeId} {x y z : Operand} {a b c m : Int} (hw : wantA ops o fr = some true) (hdst : o.dst = some d) (hd : Nat.blt d X.nt = true) (ho : o.op = .call { callee := .builtin .max, args := #[x, y, z], argTypes := ts })
    (hx : ev fr x = some (vI a)) (hy : ev fr y = some (vI b)) (hz : ev fr z = some (vI c)) (hm : (if c > (if b > a then b else a) then c else (if b > a then b else a)) = m) (h : RL X ops rest ((d, vI m) :: fr) σ Q) : RL X ops (o :: rest) fr σ Q :=
  ⟨fun γ T S w a' K hr hk => wpList_step fun K' hK => by
    rw [if_pos (wantA_sound hr hw)]
    unfold Oper.wp
    have e1 := val_sound (ev_sound hr hx)
    have e2 := val_sound (ev_sound hr hy)
    have e3 := val_sound (ev_sound hr hz)
    have : (execOp a'.eval o).run X.P w = .ok (.value (.int .i64 m)) w := by
      simp only [execOp, ho, resolve, invoke, builtin]
      simp [e1, e2, e3, run_max_int3]
      exact hm
    rw [this]
    refine hK _ _ (h.out γ T S w _ K ?_ hk)
    rw [hdst]
    exact hr.put (dst := some d) hd (.one (.v _ rfl))⟩
theorem uMax3 {d : Nat} {ts : Array TypeId} {x y z : Operand} {a b c : Int} (m : Int) (hm : (if c > (if b > a then b else a) then c else (if b > a then b else a)) = m) (h : RL (cx nt w0 S0) ops rest ((d, vI m) :: fr) σ Q) (ho : o.op = .call { callee := .builtin .max, args := #[x, y, z], argTypes := ts } := by rfl) (hw : wantA ops o fr = some true := by rfl) (hdst : o.dst = some d := by rfl) (hd : Nat.blt d nt = true := by rfl)
    (hx : ev fr x = some (vI a) := by rfl) (hy : ev fr y = some (vI b) := by rfl) (hz : ev fr z = some (vI c) := by rfl) : RL (cx nt w0 S0) ops (o :: rest) fr σ Q :=
  RL_max3 (X := cx nt w0 S0) hw hdst hd ho hx hy hz hm h
end
theorem max3_is (l c : Int) (hl : 0 ≤ l) : ∃ m : Int, (if c > (if l > 1 then l else 1) then c else (if l > 1 then l else 1)) = m ∧ 1 ≤ m ∧ l ≤ m ∧ (m ≤ 1 ∨ m ≤ l ∨ m ≤ c) := ⟨_, rfl, by split <;> split <;> omega, by split <;> split <;> omega, by split <;> split <;> omega⟩
def qP (p : Pt) (l m : Int) : Pt := ⟨5, ⟨#[]⟩, 0, zE, zE, l, m, [p]⟩
set_option maxRecDepth 100000 in
set_option maxHeartbeats 4000000 in
theorem normTimes_v (p : Pt) (n1 n2 : Int) : CallsV Try.prog 4 [.dat (encP p), vI n1, vI n2] (.val (vB true)) := by
  have hS := shown_v
  have hM := small_v p
  (refine callsV_of_W (Ty := Ty) ty_ok Try.func4 rfl rfl rfl fun w0 S0 => ?_; simp only [argsF, List.zipIdx_cons, List.zipIdx_nil, List.map_cons, List.map_nil, Nat.zero_add])
  cases hs : smallP p with
  | false =>
    rw [hs] at hM
    repeat (first | refine W_seq ?_ | refine W_region ?_ | (refine RL_nil ?_; (first | change W _ _ _ _ _ | change EndQ _ _ _ _ _ _ | change Exists _ | skip)) | (refine isRL ?_; first | refine uMv ?_ | refine uAs ?_ | refine uO ?_ | (refine isBin ?_; first | refine uIb ?_ | refine uBb true ?_ | refine uBb false ?_ | refine uCat ?_ | refine uP ?_ | refine uEq true ?_ | refine uEq false ?_) | (refine isLd ?_; first | refine uLp ?_ | refine uLb ?_ | refine uL1 ?_ | refine uL2 ?_ | refine uP ?_) | (refine isCl ?_; first | refine uC (hS) ?_ | refine uC (hM) ?_ | refine uP ?_ | refine uAk ?_ | refine uA ?_ | refine uA0 ?_ | refine uWl ?_) | (refine isFa ?_; first | refine uP ?_) | (refine isBd ?_; first | refine uBd ?_ | refine uP ?_) | (refine isSl ?_; first | refine uHm ?_ | refine uHd ?_ | refine uP ?_ | refine uH ?_) | (refine isSt ?_; first | refine uSw ?_ | refine uS ?_ | refine uSc ?_) | refine uX ?_ | refine uBu true ?_ | refine uBu false ?_ | refine uBs ?_ | refine uSx ?_ | refine uP ?_ | refine uBx ?_ | refine uN ?_ | refine uON ?_) | refine W_block ?_ | refine W_cond true (by rfl) (fun _ => ?_) (fun h => by cases h) | refine W_cond false (by rfl) (fun h => by cases h) (fun _ => ?_) | (refine W_skip ?_; (first | change W _ _ _ _ _ | change EndQ _ _ _ _ _ _ | change Exists _ | skip)) | (refine W_exit ?_; (first | change W _ _ _ _ _ | change EndQ _ _ _ _ _ _ | change Exists _ | skip)) | (refine W_ret ?_; (first | change W _ _ _ _ _ | change EndQ _ _ _ _ _ _ | change Exists _ | skip)) | refine uAnyL ?_ | refine uAny ?_ | (refine mN ?_; (first | change W _ _ _ _ _ | change EndQ _ _ _ _ _ _ | change Exists _ | skip)) | (refine isD ?_; first | refine mMv ?_ | refine mAs ?_ | refine mO ?_ | (refine imBin ?_; first | refine mIb ?_ | refine mBb true ?_ | refine mBb false ?_ | refine mCat ?_ | refine mP ?_ | refine mEq true ?_ | refine mEq false ?_) | (refine imLd ?_; first | refine mLp ?_ | refine mLb ?_ | refine mL1 ?_ | refine mL2 ?_ | refine mP ?_) | (refine imCl ?_; first | refine mC (hS) ?_ | refine mC (hM) ?_ | refine mP ?_ | refine mA ?_ | refine mA0 ?_) | (refine imFa ?_; first | refine mP ?_) | (refine imBd ?_; first | refine mBd ?_ | refine mP ?_) | (refine imSl ?_; first | refine mHm ?_ | refine mHd ?_ | refine mP ?_ | refine mH ?_) | refine mX ?_ | refine mBu true ?_ | refine mBu false ?_ | refine mBs ?_ | refine mSx ?_ | refine mP ?_ | refine mAl ?_))
    exact end_r (by rfl) rfl
  | true =>
    rw [hs] at hM
    obtain ⟨hr, hz⟩ := small_of hs
    have hZ := size_v p hr
    rw [Nat.min_eq_left (by omega)] at hZ
    have hD := DepthP_v p
    by_cases h1 : sizeN p ≤ 15
    · by_cases h2 : depthP 50 p ≤ 40
      · have hN := normal_v p hr (by omega)
        have hnn := nodes_normal p hr
        have hle := elems_le (normal p)
        have hE := elems_v (normal p) (by omega)
        obtain ⟨L, hL⟩ : ∃ L, L = (elems (normal p)).map encP := ⟨_, rfl⟩
        have hLl : L.length = (elems (normal p)).length := by rw [hL, List.length_map]
        rw [← hL] at hE
        have hL30 : L.length ≤ 30 := by omega
        obtain ⟨l, hl, hl6⟩ := and_rem7 n1
        obtain ⟨c, hc, hc6⟩ := and_rem7 n2
        obtain ⟨m, hm, hm1, hm2, hm3⟩ := max3_is l c (by omega)
        have hm6 : m ≤ 6 := by omega
        repeat (first | refine W_seq ?_ | refine W_region ?_ | (refine RL_nil ?_; (first | change W _ _ _ _ _ | change EndQ _ _ _ _ _ _ | change Exists _ | skip)) | (refine isRL ?_; first | refine uMv ?_ | refine uAs ?_ | refine uO ?_ | (refine isBin ?_; first | refine uIb ?_ | refine uBb true ?_ | refine uBb false ?_ | refine uCat ?_ | refine uP ?_ | refine uEq true ?_ | refine uEq false ?_) | (refine isLd ?_; first | refine uLp ?_ | refine uLb ?_ | refine uL1 ?_ | refine uL2 ?_ | refine uP ?_) | (refine isCl ?_; first | refine uC (hS) ?_ | refine uC (hM) ?_ | refine uC (hZ) ?_ | refine uC (hD) ?_ | refine uC (hN) ?_ | refine uC (hE) ?_ | refine uP ?_ | refine uAk ?_ | refine uA ?_ | refine uA0 ?_ | refine uWl ?_) | (refine isFa ?_; first | refine uP ?_) | (refine isBd ?_; first | refine uBd ?_ | refine uP ?_) | (refine isSl ?_; first | refine uHm ?_ | refine uHd ?_ | refine uP ?_ | refine uH ?_) | (refine isSt ?_; first | refine uSw ?_ | refine uS ?_ | refine uSc ?_) | refine uX ?_ | refine uBu true ?_ | refine uBu false ?_ | refine uBs ?_ | refine uSx ?_ | refine uP ?_ | refine uBx ?_ | refine uN ?_ | refine uON ?_) | refine W_block ?_ | refine W_cond true (by rfl) (fun _ => ?_) (fun h => by cases h) | refine W_cond false (by rfl) (fun h => by cases h) (fun _ => ?_) | (refine W_skip ?_; (first | change W _ _ _ _ _ | change EndQ _ _ _ _ _ _ | change Exists _ | skip)) | (refine W_exit ?_; (first | change W _ _ _ _ _ | change EndQ _ _ _ _ _ _ | change Exists _ | skip)) | (refine W_ret ?_; (first | change W _ _ _ _ _ | change EndQ _ _ _ _ _ _ | change Exists _ | skip)) | refine uAnyL ?_ | refine uAny ?_ | (refine mN ?_; (first | change W _ _ _ _ _ | change EndQ _ _ _ _ _ _ | change Exists _ | skip)) | (refine isD ?_; first | refine mMv ?_ | refine mAs ?_ | refine mO ?_ | (refine imBin ?_; first | refine mIb ?_ | refine mBb true ?_ | refine mBb false ?_ | refine mCat ?_ | refine mP ?_ | refine mEq true ?_ | refine mEq false ?_) | (refine imLd ?_; first | refine mLp ?_ | refine mLb ?_ | refine mL1 ?_ | refine mL2 ?_ | refine mP ?_) | (refine imCl ?_; first | refine mC (hS) ?_ | refine mC (hM) ?_ | refine mC (hZ) ?_ | refine mC (hD) ?_ | refine mC (hN) ?_ | refine mC (hE) ?_ | refine mP ?_ | refine mA ?_ | refine mA0 ?_) | (refine imFa ?_; first | refine mP ?_) | (refine imBd ?_; first | refine mBd ?_ | refine mP ?_) | (refine imSl ?_; first | refine mHm ?_ | refine mHd ?_ | refine mP ?_ | refine mH ?_) | refine mX ?_ | refine mBu true ?_ | refine mBu false ?_ | refine mBs ?_ | refine mSx ?_ | refine mP ?_ | refine mAl ?_))
        rw [hl, hc]
        refine uMax3 m hm ?_
        -- made normal, so many times
        have hr1 : rightP (qP p l m) = true := right_quant_mk hr ⟨by omega, by omega⟩ (.inr ⟨hm1, hm2, by omega⟩)
        have hr2 : rightP (qP p l (-1)) = true := right_quant_mk hr ⟨by omega, by omega⟩ (.inl rfl)
        have hs1 : sizeN (qP p l m) ≤ 5000 := by
          rw [sizeN_quant (p := qP p l m) rfl rfl]
          have ht : timesP (qP p l m) ≤ 6 := by unfold timesP qP; simp only; split <;> omega
          have := Nat.mul_le_mul (show sizeN p + 1 ≤ 16 by omega) ht
          omega
        have hs2 : sizeN (qP p l (-1)) ≤ 5000 := by
          rw [sizeN_quant (p := qP p l (-1)) rfl rfl]
          have ht : timesP (qP p l (-1)) ≤ 7 := by unfold timesP qP; simp only; split <;> omega
          have := Nat.mul_le_mul (show sizeN p + 1 ≤ 16 by omega) ht
          omega
        have hA := normal_v (qP p l m) hr1 hs1
        have hB := normal_v (qP p l (-1)) hr2 hs2
        have nA := elems_normal_quant (p := qP p l m) rfl rfl (by show (0 : Int) ≤ l; omega)
        have nB := elems_normal_quant (p := qP p l (-1)) rfl rfl (by show (0 : Int) ≤ l; omega)
        have hkA : (if (qP p l m).max < 0 then (qP p l m).min.toNat + 1 else if (qP p l m).min < (qP p l m).max then (qP p l m).max.toNat else (qP p l m).min.toNat) = m.toNat := by
          unfold qP; simp only; split
          · omega
          · split <;> omega
        have hkB : (if (qP p l (-1)).max < 0 then (qP p l (-1)).min.toNat + 1 else if (qP p l (-1)).min < (qP p l (-1)).max then (qP p l (-1)).max.toNat else (qP p l (-1)).min.toNat) = l + 1 := by
          unfold qP; simp only; split <;> omega
        rw [hkA, ← hLl] at nA
        rw [hkB, ← hLl] at nB
        have bA : m.toNat * L.length ≤ 6 * 30 := Nat.mul_le_mul (by omega) hL30
        have bB : (l + 1) * L.length ≤ 7 * 30 := Nat.mul_le_mul (by omega) hL30
        have hEA := elems_v (normal (qP p l m)) (by omega)
        have hEB := elems_v (normal (qP p l (-1))) (by omega)
        obtain ⟨LA, hLA⟩ : ∃ LA, LA = (elems (normal (qP p l m))).map encP := ⟨_, rfl⟩
        obtain ⟨LB, hLB⟩ : ∃ LB, LB = (elems (normal (qP p l (-1)))).map encP := ⟨_, rfl⟩
        have hLAl : LA.length = m.toNat * L.length := by rw [hLA, List.length_map, nA]
        have hLBl : LB.length = (l + 1) * L.length := by rw [hLB, List.length_map, nB]
        rw [← hLA] at hEA
        rw [← hLB] at hEB
        have eA : (LA.length : Int) = m * (L.length : Int) := by rw [hLAl, Int.natCast_mul, Int.toNat_of_nonneg (by omega)]
        have eB : (LB.length : Int) = ((l : Int) + 1) * (L.length : Int) := by rw [hLBl, Int.natCast_mul]; rfl
        have bA' : 0 ≤ m * (L.length : Int) ∧ m * (L.length : Int) ≤ 180 := by rw [← eA]; omega
        have bB' : 0 ≤ ((l : Int) + 1) * (L.length : Int) ∧ ((l : Int) + 1) * (L.length : Int) ≤ 210 := by rw [← eB]; omega
        repeat (first | refine W_seq ?_ | refine W_region ?_ | (refine RL_nil ?_; (first | change W _ _ _ _ _ | change EndQ _ _ _ _ _ _ | change Exists _ | skip)) | (refine isRL ?_; first | refine uMv ?_ | refine uAs ?_ | refine uO ?_ | (refine isBin ?_; first | refine uIb ?_ | refine uBb true ?_ | refine uBb false ?_ | refine uCat ?_ | refine uP ?_ | refine uEq true ?_ | refine uEq false ?_) | (refine isLd ?_; first | refine uLp ?_ | refine uLb ?_ | refine uL1 ?_ | refine uL2 ?_ | refine uP ?_) | (refine isCl ?_; first | refine uC (hA) ?_ | refine uC (hB) ?_ | refine uC (hEA) ?_ | refine uC (hEB) ?_ | refine uP ?_ | refine uAk ?_ | refine uA ?_ | refine uA0 ?_ | refine uWl ?_) | (refine isFa ?_; first | refine uP ?_) | (refine isBd ?_; first | refine uBd ?_ | refine uP ?_) | (refine isSl ?_; first | refine uHm ?_ | refine uHd ?_ | refine uP ?_ | refine uH ?_) | (refine isSt ?_; first | refine uSw ?_ | refine uS ?_ | refine uSc ?_) | refine uX ?_ | refine uBu true ?_ | refine uBu false ?_ | refine uBs ?_ | refine uSx ?_ | refine uP ?_ | refine uBx ?_ | refine uN ?_ | refine uON ?_) | refine W_block ?_ | refine W_cond true (by rfl) (fun _ => ?_) (fun h => by cases h) | refine W_cond false (by rfl) (fun h => by cases h) (fun _ => ?_) | (refine W_skip ?_; (first | change W _ _ _ _ _ | change EndQ _ _ _ _ _ _ | change Exists _ | skip)) | (refine W_exit ?_; (first | change W _ _ _ _ _ | change EndQ _ _ _ _ _ _ | change Exists _ | skip)) | (refine W_ret ?_; (first | change W _ _ _ _ _ | change EndQ _ _ _ _ _ _ | change Exists _ | skip)) | refine uAnyL ?_ | refine uAny ?_ | (refine mN ?_; (first | change W _ _ _ _ _ | change EndQ _ _ _ _ _ _ | change Exists _ | skip)) | (refine isD ?_; first | refine mMv ?_ | refine mAs ?_ | refine mO ?_ | (refine imBin ?_; first | refine mIb ?_ | refine mBb true ?_ | refine mBb false ?_ | refine mCat ?_ | refine mP ?_ | refine mEq true ?_ | refine mEq false ?_) | (refine imLd ?_; first | refine mLp ?_ | refine mLb ?_ | refine mL1 ?_ | refine mL2 ?_ | refine mP ?_) | (refine imCl ?_; first | refine mC (hA) ?_ | refine mC (hB) ?_ | refine mC (hEA) ?_ | refine mC (hEB) ?_ | refine mP ?_ | refine mA ?_ | refine mA0 ?_) | (refine imFa ?_; first | refine mP ?_) | (refine imBd ?_; first | refine mBd ?_ | refine mP ?_) | (refine imSl ?_; first | refine mHm ?_ | refine mHd ?_ | refine mP ?_ | refine mH ?_) | refine mX ?_ | refine mBu true ?_ | refine mBu false ?_ | refine mBs ?_ | refine mSx ?_ | refine mP ?_ | refine mAl ?_))
        exact end_r (by rfl) rfl
      · repeat (first | refine W_seq ?_ | refine W_region ?_ | (refine RL_nil ?_; (first | change W _ _ _ _ _ | change EndQ _ _ _ _ _ _ | change Exists _ | skip)) | (refine isRL ?_; first | refine uMv ?_ | refine uAs ?_ | refine uO ?_ | (refine isBin ?_; first | refine uIb ?_ | refine uBb true ?_ | refine uBb false ?_ | refine uCat ?_ | refine uP ?_ | refine uEq true ?_ | refine uEq false ?_) | (refine isLd ?_; first | refine uLp ?_ | refine uLb ?_ | refine uL1 ?_ | refine uL2 ?_ | refine uP ?_) | (refine isCl ?_; first | refine uC (hS) ?_ | refine uC (hM) ?_ | refine uC (hZ) ?_ | refine uC (hD) ?_ | refine uP ?_ | refine uAk ?_ | refine uA ?_ | refine uA0 ?_ | refine uWl ?_) | (refine isFa ?_; first | refine uP ?_) | (refine isBd ?_; first | refine uBd ?_ | refine uP ?_) | (refine isSl ?_; first | refine uHm ?_ | refine uHd ?_ | refine uP ?_ | refine uH ?_) | (refine isSt ?_; first | refine uSw ?_ | refine uS ?_ | refine uSc ?_) | refine uX ?_ | refine uBu true ?_ | refine uBu false ?_ | refine uBs ?_ | refine uSx ?_ | refine uP ?_ | refine uBx ?_ | refine uN ?_ | refine uON ?_) | refine W_block ?_ | refine W_cond true (by rfl) (fun _ => ?_) (fun h => by cases h) | refine W_cond false (by rfl) (fun h => by cases h) (fun _ => ?_) | (refine W_skip ?_; (first | change W _ _ _ _ _ | change EndQ _ _ _ _ _ _ | change Exists _ | skip)) | (refine W_exit ?_; (first | change W _ _ _ _ _ | change EndQ _ _ _ _ _ _ | change Exists _ | skip)) | (refine W_ret ?_; (first | change W _ _ _ _ _ | change EndQ _ _ _ _ _ _ | change Exists _ | skip)) | refine uAnyL ?_ | refine uAny ?_ | (refine mN ?_; (first | change W _ _ _ _ _ | change EndQ _ _ _ _ _ _ | change Exists _ | skip)) | (refine isD ?_; first | refine mMv ?_ | refine mAs ?_ | refine mO ?_ | (refine imBin ?_; first | refine mIb ?_ | refine mBb true ?_ | refine mBb false ?_ | refine mCat ?_ | refine mP ?_ | refine mEq true ?_ | refine mEq false ?_) | (refine imLd ?_; first | refine mLp ?_ | refine mLb ?_ | refine mL1 ?_ | refine mL2 ?_ | refine mP ?_) | (refine imCl ?_; first | refine mC (hS) ?_ | refine mC (hM) ?_ | refine mC (hZ) ?_ | refine mC (hD) ?_ | refine mP ?_ | refine mA ?_ | refine mA0 ?_) | (refine imFa ?_; first | refine mP ?_) | (refine imBd ?_; first | refine mBd ?_ | refine mP ?_) | (refine imSl ?_; first | refine mHm ?_ | refine mHd ?_ | refine mP ?_ | refine mH ?_) | refine mX ?_ | refine mBu true ?_ | refine mBu false ?_ | refine mBs ?_ | refine mSx ?_ | refine mP ?_ | refine mAl ?_))
        exact end_r (by rfl) rfl
    · repeat (first | refine W_seq ?_ | refine W_region ?_ | (refine RL_nil ?_; (first | change W _ _ _ _ _ | change EndQ _ _ _ _ _ _ | change Exists _ | skip)) | (refine isRL ?_; first | refine uMv ?_ | refine uAs ?_ | refine uO ?_ | (refine isBin ?_; first | refine uIb ?_ | refine uBb true ?_ | refine uBb false ?_ | refine uCat ?_ | refine uP ?_ | refine uEq true ?_ | refine uEq false ?_) | (refine isLd ?_; first | refine uLp ?_ | refine uLb ?_ | refine uL1 ?_ | refine uL2 ?_ | refine uP ?_) | (refine isCl ?_; first | refine uC (hS) ?_ | refine uC (hM) ?_ | refine uC (hZ) ?_ | refine uP ?_ | refine uAk ?_ | refine uA ?_ | refine uA0 ?_ | refine uWl ?_) | (refine isFa ?_; first | refine uP ?_) | (refine isBd ?_; first | refine uBd ?_ | refine uP ?_) | (refine isSl ?_; first | refine uHm ?_ | refine uHd ?_ | refine uP ?_ | refine uH ?_) | (refine isSt ?_; first | refine uSw ?_ | refine uS ?_ | refine uSc ?_) | refine uX ?_ | refine uBu true ?_ | refine uBu false ?_ | refine uBs ?_ | refine uSx ?_ | refine uP ?_ | refine uBx ?_ | refine uN ?_ | refine uON ?_) | refine W_block ?_ | refine W_cond true (by rfl) (fun _ => ?_) (fun h => by cases h) | refine W_cond false (by rfl) (fun h => by cases h) (fun _ => ?_) | (refine W_skip ?_; (first | change W _ _ _ _ _ | change EndQ _ _ _ _ _ _ | change Exists _ | skip)) | (refine W_exit ?_; (first | change W _ _ _ _ _ | change EndQ _ _ _ _ _ _ | change Exists _ | skip)) | (refine W_ret ?_; (first | change W _ _ _ _ _ | change EndQ _ _ _ _ _ _ | change Exists _ | skip)) | refine uAnyL ?_ | refine uAny ?_ | (refine mN ?_; (first | change W _ _ _ _ _ | change EndQ _ _ _ _ _ _ | change Exists _ | skip)) | (refine isD ?_; first | refine mMv ?_ | refine mAs ?_ | refine mO ?_ | (refine imBin ?_; first | refine mIb ?_ | refine mBb true ?_ | refine mBb false ?_ | refine mCat ?_ | refine mP ?_ | refine mEq true ?_ | refine mEq false ?_) | (refine imLd ?_; first | refine mLp ?_ | refine mLb ?_ | refine mL1 ?_ | refine mL2 ?_ | refine mP ?_) | (refine imCl ?_; first | refine mC (hS) ?_ | refine mC (hM) ?_ | refine mC (hZ) ?_ | refine mP ?_ | refine mA ?_ | refine mA0 ?_) | (refine imFa ?_; first | refine mP ?_) | (refine imBd ?_; first | refine mBd ?_ | refine mP ?_) | (refine imSl ?_; first | refine mHm ?_ | refine mHd ?_ | refine mP ?_ | refine mH ?_) | refine mX ?_ | refine mBu true ?_ | refine mBu false ?_ | refine mBs ?_ | refine mSx ?_ | refine mP ?_ | refine mAl ?_))
      exact end_r (by rfl) rfl
end Go.Proofs.Ytgdgcloenhnbiaa
