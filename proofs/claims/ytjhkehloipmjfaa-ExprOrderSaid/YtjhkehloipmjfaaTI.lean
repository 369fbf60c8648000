/- ExprOrder: the walk. -/
import Derived.Test.YtjhkehloipmjfaaEX
import Derived.Test.YtjhkehloipmjfaaRows
import Derived.Test.YtjhkehloipmjfaaTH
import Derived.WalkKit
import Derived.ProofKit
import Derived.OpenShut
import Derived.ShutString
import Derived.ChangeOld
import Derived.Below
import Derived.SizedLaws
namespace Go.Proofs.Ytjhkehloipmjfaa
open Go.RowKit
set_option maxRecDepth 100000 in
set_option maxHeartbeats 4000000 in
theorem exprOrder_v (e : E) (l : List Pr) : CallsV Try.prog 3 [.dat (encE e), vL (l.map encPr)] (.val (vB true)) := by
  have hS := shown05_v
  have c1 := large_v e
  have r1 := exprRight_v e
  by_cases g1 : countE e > 300
  · rw [decide_eq_true g1] at c1
    (refine callsV_of_W (Ty := Ty) ty_ok Try.func3 rfl rfl rfl fun w0 S0 => ?_; simp only [argsF, List.zipIdx_cons, List.zipIdx_nil, List.map_cons, List.map_nil, Nat.zero_add])
    repeat (first | refine W_seq ?_ | refine W_region ?_ | (refine RL_nil ?_; (first | change W _ _ _ _ _ | change EndQ _ _ _ _ _ _ | change Exists _ | change EndG _ _ _ _ _ _ _ _ _ _ | change EndM _ _ _ _ _ _ _ | skip)) | (refine isRL ?_; first | refine uMv ?_ | refine uAs ?_ | refine uO ?_ | (refine isBin ?_; first | refine uBb true ?_ | refine uBb false ?_ | refine uP ?_ | refine uEq true ?_ | refine uEq false ?_) | (refine isLd ?_; first | refine uLp ?_ | refine uLb ?_ | refine uL1 ?_ | refine uL2 ?_ | refine uP ?_) | (refine isCl ?_; first | refine uC (hS) ?_ | refine uC (c1) ?_ | refine uP ?_) | (refine isSt ?_; first | refine uSw ?_ | refine uS ?_ | refine uSc ?_) | refine uBu true ?_ | refine uBu false ?_ | refine uP ?_ | refine uBx ?_ | refine uN ?_ | refine uON ?_) | refine W_cond true (by rfl) (fun _ => ?_) (fun h => by cases h) | refine W_cond false (by rfl) (fun h => by cases h) (fun _ => ?_) | (refine W_skip ?_; (first | change W _ _ _ _ _ | change EndQ _ _ _ _ _ _ | change Exists _ | change EndG _ _ _ _ _ _ _ _ _ _ | change EndM _ _ _ _ _ _ _ | skip)) | (refine W_ret ?_; (first | change W _ _ _ _ _ | change EndQ _ _ _ _ _ _ | change Exists _ | change EndG _ _ _ _ _ _ _ _ _ _ | change EndM _ _ _ _ _ _ _ | skip)))
    exact end_r (by rfl) rfl
  rw [decide_eq_false g1] at c1
  cases g5 : exprRight e with
  | false =>
    rw [g5] at r1
    (refine callsV_of_W (Ty := Ty) ty_ok Try.func3 rfl rfl rfl fun w0 S0 => ?_; simp only [argsF, List.zipIdx_cons, List.zipIdx_nil, List.map_cons, List.map_nil, Nat.zero_add])
    repeat (first | refine W_seq ?_ | refine W_region ?_ | (refine RL_nil ?_; (first | change W _ _ _ _ _ | change EndQ _ _ _ _ _ _ | change Exists _ | change EndG _ _ _ _ _ _ _ _ _ _ | change EndM _ _ _ _ _ _ _ | skip)) | (refine isRL ?_; first | refine uMv ?_ | refine uAs ?_ | refine uO ?_ | (refine isBin ?_; first | refine uBb true ?_ | refine uBb false ?_ | refine uP ?_ | refine uEq true ?_ | refine uEq false ?_) | (refine isLd ?_; first | refine uLp ?_ | refine uLb ?_ | refine uL1 ?_ | refine uL2 ?_ | refine uP ?_) | (refine isCl ?_; first | refine uC (hS) ?_ | refine uC (c1) ?_ | refine uC (r1) ?_ | refine uP ?_) | (refine isSt ?_; first | refine uSw ?_ | refine uS ?_ | refine uSc ?_) | refine uBu true ?_ | refine uBu false ?_ | refine uP ?_ | refine uBx ?_ | refine uN ?_ | refine uON ?_) | refine W_cond true (by rfl) (fun _ => ?_) (fun h => by cases h) | refine W_cond false (by rfl) (fun h => by cases h) (fun _ => ?_) | (refine W_skip ?_; (first | change W _ _ _ _ _ | change EndQ _ _ _ _ _ _ | change Exists _ | change EndG _ _ _ _ _ _ _ _ _ _ | change EndM _ _ _ _ _ _ _ | skip)) | (refine W_ret ?_; (first | change W _ _ _ _ _ | change EndQ _ _ _ _ _ _ | change Exists _ | change EndG _ _ _ _ _ _ _ _ _ _ | change EndM _ _ _ _ _ _ _ | skip)))
    exact end_r (by rfl) rfl
  | true =>
  rw [g5] at r1
  have f2 := few_v l
  have hT := (turned_m e (rightE_of g5)).toV
  have e1 := Eval_v (fewP l) e
  have e2 := Eval_v (fewP l) (turnE e)
  rw [evalR_turn (fewP l) g5] at e2
  generalize evalR (fewP l) e = x at *
  have s1 := sameV_v x.1 x.1
  rw [sameV_refl] at s1
  have hxx : (x.2 == x.2) = true := by simp
  (refine callsV_of_W (Ty := Ty) ty_ok Try.func3 rfl rfl rfl fun w0 S0 => ?_; simp only [argsF, List.zipIdx_cons, List.zipIdx_nil, List.map_cons, List.map_nil, Nat.zero_add])
  repeat (first | refine W_seq ?_ | refine W_region ?_ | (refine RL_nil ?_; (first | change W _ _ _ _ _ | change EndQ _ _ _ _ _ _ | change Exists _ | change EndG _ _ _ _ _ _ _ _ _ _ | change EndM _ _ _ _ _ _ _ | skip)) | (refine isRL ?_; first | refine uMv ?_ | refine uAs ?_ | refine uO ?_ | (refine isBin ?_; first | refine uBb true ?_ | refine uBb false ?_ | refine uP ?_ | refine uEq true ?_ | refine uEq false ?_) | (refine isLd ?_; first | refine uLp ?_ | refine uLb ?_ | refine uL1 ?_ | refine uL2 ?_ | refine uP ?_) | (refine isCl ?_; first | refine uC (hS) ?_ | refine uC (c1) ?_ | refine uC (r1) ?_ | refine uCO (f2) ?_ | refine uC (e1) ?_ | refine uC (hT) ?_ | refine uC (e2) ?_ | refine uC (s1) ?_ | refine uP ?_) | (refine isSt ?_; first | refine uSw ?_ | refine uS ?_ | refine uSc ?_) | refine uBu true ?_ | refine uBu false ?_ | refine uP ?_ | refine uBx ?_ | refine uN ?_ | refine uON ?_) | refine W_cond true (by rfl) (fun _ => ?_) (fun h => by cases h) | refine W_cond false (by rfl) (fun h => by cases h) (fun _ => ?_) | (refine W_skip ?_; (first | change W _ _ _ _ _ | change EndQ _ _ _ _ _ _ | change Exists _ | change EndG _ _ _ _ _ _ _ _ _ _ | change EndM _ _ _ _ _ _ _ | skip)) | (refine W_ret ?_; (first | change W _ _ _ _ _ | change EndQ _ _ _ _ _ _ | change Exists _ | change EndG _ _ _ _ _ _ _ _ _ _ | change EndM _ _ _ _ _ _ _ | skip)))
  exact end_r (by rfl) rfl
end Go.Proofs.Ytjhkehloipmjfaa
/- The law ExprOrder holds of every input: it returns true, and each argument reads as it read before. -/
namespace Go.Proofs.Ytjhkehloipmjfaa.exprOrder
open Go.ChangeShapes Go.WideShapes Go.ChangeAt Go.RowKit
open Go.ChangeMaps (open_string shut_string)
theorem own : ownKnob Try.prog.godebug = none := by kernel_rfl
theorem laidOut : laidOutB Try.prog = true := by kernel_rfl
set_option maxRecDepth 100000 in
theorem lifted (os : Os) (started : os.Started) (H : Type) (enc : TypeId × Value → H) :
    ReturnsInHanded {} Try.checked os 3 .any (Rows.exprOrderSpec.pre6 enc Try.prog Try.f3 Rows.exprOrderRow.domain false) (Rows.exprOrderSpec.post enc Try.prog Try.f3 false true false false) := by
  refine returnsInHanded_of_change_sized (C := Try.checked) own started (by kernel_rfl) Try.func3
    (ChangeSpec.witness6 (enc := enc) (C := Try.checked) false ⟨#[], #[.agg #[.int .i64 0, .string ByteArray.empty, .int .i64 0, .int .i64 0, .float .f64 0, .string ByteArray.empty, .slice none 0 0], .slice none 0 0], []⟩ 8 (by kernel_rfl) (by kernel_rfl) (by kernel_rfl) (by kernel_rfl)) ?_
  intro W base args ds gs before hval0 hW hcnd hsz0 _
  have hsz : (DataW.weightsEach Try.prog (Try.f3.params.toList ++ Rows.exprOrderSpec.plain.varTypes Try.prog) (ds ++ gs)).all (· ≤ reachBytes) = true := hsz0
  have hval : ∀ (j : Nat) t v, Try.f3.params[j]? = some t → args[j]? = some v → Value.okWide Try.prog W .any base t v := hval0
  have hW' := hW
  obtain ⟨p, q, hA0, hV, rfl, hfz, hnd⟩ := hW
  have hA : DataW.TrodAll enc Try.prog W 0 (fun _ => true) true Try.f3.params.toList args.toList ds p := hA0
  rw [Try.params3] at hA hval hsz
  obtain ⟨v0, vs0, d0, ds0, p0, q0, hargs, rfl, rfl, h0, r0⟩ := trodAll_cons hA
  obtain ⟨v1, vs1, d1, ds1, p1, q1, rfl, rfl, rfl, h1, r1⟩ := trodAll_cons r0
  obtain ⟨rfl, rfl, rfl⟩ := trodAll_nil r1
  obtain rfl : args = #[v0, v1] := by cases args; simp_all
  obtain ⟨rfl, rfl⟩ := trodVars_none hV
  have k0 := h0
  have lt0 : ∀ x ∈ p0, x.block < W.heap.size := by obtain ⟨m, hm⟩ := k0; exact DataW.trod_lt m _ _ _ hm
  obtain ⟨x0, z0⟩ := arg_expr hsz (j := 0) rfl rfl (hval 0 27 v0 rfl rfl) h0
  have k1 := h1
  have lt1 : ∀ x ∈ p1, x.block < W.heap.size := by obtain ⟨m, hm⟩ := k1; exact DataW.trod_lt m _ _ _ hm
  obtain ⟨x1, z1⟩ := arg_props hsz (j := 1) rfl rfl (hval 1 28 v1 rfl rfl) h1
  clear hA0 hval0 hsz0 hsz
  refine ((exprOrder_v x0 x1).out (SW_ W) W [v0, v1] (argsR_cons z0 (argsR_cons z1 argsR_nil)) (fun _ _ hs => hs)).mono fun e W' hq => ?_
  obtain ⟨v, S', rfl, bel, _, _, hv⟩ := hq
  obtain rfl := pv_v hv
  exact ⟨_, rfl, _, _, _, [], _, [], hW', trodAll_mk1 (shut_bool Try.underlying4 _), (trodAll_cons_mk (Below.trod laidOut (by kernel_rfl) (of_decide_eq_true (by kernel_rfl)) k0 bel lt0) (trodAll_cons_mk (Below.trod laidOut (by kernel_rfl) (of_decide_eq_true (by kernel_rfl)) k1 bel lt1) trodAll_mk0)), rfl, bel.frame _, fun h => by cases h⟩
theorem over : Rows.exprOrderRow.holds Try.pinned (OpenSpec.ofChange Rows.exprOrderSpec) :=
  OpenClaim.holds_of_wide 3 Try.f3 rfl rfl rfl rfl rfl rfl rfl ⟨rfl, rfl, rfl, rfl, rfl⟩ rfl rfl rfl rfl rfl (by kernel_rfl) Try.func3 (by kernel_rfl)
    (of_decide_eq_true (by kernel_rfl)) (by unfold Func.isWrapper; first | (rw [if_pos (by decide +kernel)]; kernel_rfl) | (rw [if_neg (by decide +kernel)]; exact ⟨rfl, rfl⟩))
    (fun os started H enc _ => lifted os started H enc)
theorem proved : Rows.ExprOrderSaid := over
end Go.Proofs.Ytjhkehloipmjfaa.exprOrder
namespace Go.Proofs.Ytjhkehloipmjfaa
/-- The row, under a short name, for the claim. -/
theorem exprOrder_holds : Rows.ExprOrderSaid := exprOrder.proved
end Go.Proofs.Ytjhkehloipmjfaa
