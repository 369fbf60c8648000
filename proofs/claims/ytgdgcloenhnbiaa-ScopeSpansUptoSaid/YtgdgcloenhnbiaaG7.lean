/- Walks: what the laws of scope put together. -/
import Derived.Test.YtgdgcloenhnbiaaG6
import Derived.Test.YtgdgcloenhnbiaaVK
namespace Go.Proofs.Ytgdgcloenhnbiaa
open Go.RowKit
def nodeV (s : ByteArray) : Pt := ⟨1, s, 0, zE, zE, 0, 0, []⟩
def edgeV (s : ByteArray) : Pt := ⟨2, s, 4, zE, zE, 0, 0, []⟩
def quantV (p : Pt) (l m : Int) : Pt := ⟨5, ⟨#[]⟩, 0, zE, zE, l, m, [p]⟩
set_option maxRecDepth 100000 in
theorem large_v (p : Pt) : CallsV Try.prog 29 [.dat (encP p)] (.val (vB (decide (300 < countP p)))) := by
  have hC := countP_v p
  (refine callsV_of_W (Ty := Ty) ty_ok Try.func29 rfl rfl rfl fun w0 S0 => ?_; simp only [argsF, List.zipIdx_cons, List.zipIdx_nil, List.map_cons, List.map_nil, Nat.zero_add])
  by_cases h : 300 < countP p
  · repeat (first | refine W_seq ?_ | refine W_region ?_ | (refine RL_nil ?_; (first | change W _ _ _ _ _ | change EndQ _ _ _ _ _ _ | change Exists _ | change EndG _ _ _ _ _ _ _ _ _ _ | change EndM _ _ _ _ _ _ _ | skip)) | (refine isRL ?_; first | refine uAs ?_ | (refine isBin ?_; first | refine uBb true ?_ | refine uBb false ?_ | refine uP ?_ | refine uEq true ?_ | refine uEq false ?_) | (refine isLd ?_; first | refine uLp ?_ | refine uLb ?_ | refine uL1 ?_ | refine uL2 ?_ | refine uP ?_) | (refine isCl ?_; first | refine uC (hC) ?_ | refine uP ?_) | refine uP ?_ | refine uBx ?_ | refine uN ?_) | (refine W_skip ?_; (first | change W _ _ _ _ _ | change EndQ _ _ _ _ _ _ | change Exists _ | change EndG _ _ _ _ _ _ _ _ _ _ | change EndM _ _ _ _ _ _ _ | skip)) | (refine W_ret ?_; (first | change W _ _ _ _ _ | change EndQ _ _ _ _ _ _ | change Exists _ | change EndG _ _ _ _ _ _ _ _ _ _ | change EndM _ _ _ _ _ _ _ | skip)))
    exact end_r (by rfl) (vB_eq (by simp [h]))
  · repeat (first | refine W_seq ?_ | refine W_region ?_ | (refine RL_nil ?_; (first | change W _ _ _ _ _ | change EndQ _ _ _ _ _ _ | change Exists _ | change EndG _ _ _ _ _ _ _ _ _ _ | change EndM _ _ _ _ _ _ _ | skip)) | (refine isRL ?_; first | refine uAs ?_ | (refine isBin ?_; first | refine uBb true ?_ | refine uBb false ?_ | refine uP ?_ | refine uEq true ?_ | refine uEq false ?_) | (refine isLd ?_; first | refine uLp ?_ | refine uLb ?_ | refine uL1 ?_ | refine uL2 ?_ | refine uP ?_) | (refine isCl ?_; first | refine uC (hC) ?_ | refine uP ?_) | refine uP ?_ | refine uBx ?_ | refine uN ?_) | (refine W_skip ?_; (first | change W _ _ _ _ _ | change EndQ _ _ _ _ _ _ | change Exists _ | change EndG _ _ _ _ _ _ _ _ _ _ | change EndM _ _ _ _ _ _ _ | skip)) | (refine W_ret ?_; (first | change W _ _ _ _ _ | change EndQ _ _ _ _ _ _ | change Exists _ | change EndG _ _ _ _ _ _ _ _ _ _ | change EndM _ _ _ _ _ _ _ | skip)))
    exact end_r (by rfl) (vB_eq (by simp [h]))
set_option maxRecDepth 100000 in
theorem node13_v (s : ByteArray) : CallsV Try.prog 33 [.one (.d (.v (.string s)))] (.val (.dat (encP (nodeV s)))) := by
  (refine callsV_of_W (Ty := Ty) ty_ok Try.func33 rfl rfl rfl fun w0 S0 => ?_; simp only [argsF, List.zipIdx_cons, List.zipIdx_nil, List.map_cons, List.map_nil, Nat.zero_add])
  repeat (first | refine W_seq ?_ | refine W_region ?_ | (refine RL_nil ?_; (first | change W _ _ _ _ _ | change EndQ _ _ _ _ _ _ | change Exists _ | change EndG _ _ _ _ _ _ _ _ _ _ | change EndM _ _ _ _ _ _ _ | skip)) | (refine isRL ?_; first | refine uMv ?_ | (refine isBd ?_; first | refine uBd ?_ | refine uP ?_) | (refine isSt ?_; first | refine uSw ?_ | refine uS ?_ | refine uSc ?_) | refine uP ?_ | refine uN ?_) | (refine W_skip ?_; (first | change W _ _ _ _ _ | change EndQ _ _ _ _ _ _ | change Exists _ | change EndG _ _ _ _ _ _ _ _ _ _ | change EndM _ _ _ _ _ _ _ | skip)) | (refine W_ret ?_; (first | change W _ _ _ _ _ | change EndQ _ _ _ _ _ _ | change Exists _ | change EndG _ _ _ _ _ _ _ _ _ _ | change EndM _ _ _ _ _ _ _ | skip)))
  exact end_b rfl rfl rfl rfl rfl rfl rfl
set_option maxRecDepth 100000 in
theorem edge13_v (s : ByteArray) : CallsV Try.prog 52 [.one (.d (.v (.string s)))] (.val (.dat (encP (edgeV s)))) := by
  (refine callsV_of_W (Ty := Ty) ty_ok Try.func52 rfl rfl rfl fun w0 S0 => ?_; simp only [argsF, List.zipIdx_cons, List.zipIdx_nil, List.map_cons, List.map_nil, Nat.zero_add])
  repeat (first | refine W_seq ?_ | refine W_region ?_ | (refine RL_nil ?_; (first | change W _ _ _ _ _ | change EndQ _ _ _ _ _ _ | change Exists _ | change EndG _ _ _ _ _ _ _ _ _ _ | change EndM _ _ _ _ _ _ _ | skip)) | (refine isRL ?_; first | refine uMv ?_ | (refine isBd ?_; first | refine uBd ?_ | refine uP ?_) | (refine isSt ?_; first | refine uSw ?_ | refine uS ?_ | refine uSc ?_) | refine uP ?_ | refine uN ?_) | (refine W_skip ?_; (first | change W _ _ _ _ _ | change EndQ _ _ _ _ _ _ | change Exists _ | change EndG _ _ _ _ _ _ _ _ _ _ | change EndM _ _ _ _ _ _ _ | skip)) | (refine W_ret ?_; (first | change W _ _ _ _ _ | change EndQ _ _ _ _ _ _ | change Exists _ | change EndG _ _ _ _ _ _ _ _ _ _ | change EndM _ _ _ _ _ _ _ | skip)))
  exact end_b rfl rfl rfl rfl rfl rfl rfl
set_option maxRecDepth 100000 in
theorem seq13_v (l : List Pt) (hb : l.length ≤ 1000) : CallsV Try.prog 32 [vL (l.map encP)] (.val (.dat (encP (groupP 3 l)))) := by
  (refine callsV_of_W (Ty := Ty) ty_ok Try.func32 rfl rfl rfl fun w0 S0 => ?_; simp only [argsF, List.zipIdx_cons, List.zipIdx_nil, List.map_cons, List.map_nil, Nat.zero_add])
  repeat (first | refine W_seq ?_ | refine W_region ?_ | (refine RL_nil ?_; (first | change W _ _ _ _ _ | change EndQ _ _ _ _ _ _ | change Exists _ | change EndG _ _ _ _ _ _ _ _ _ _ | change EndM _ _ _ _ _ _ _ | skip)) | (refine isRL ?_; first | refine uMv ?_ | (refine isCl ?_; first | refine uP ?_ | refine uAk ?_ | refine uA ?_ | refine uA0 ?_ | refine uWl ?_) | (refine isBd ?_; first | refine uBd ?_ | refine uP ?_) | (refine isSt ?_; first | refine uSw ?_ | refine uS ?_ | refine uSc ?_) | refine uBs ?_ | refine uP ?_ | refine uN ?_) | (refine W_skip ?_; (first | change W _ _ _ _ _ | change EndQ _ _ _ _ _ _ | change Exists _ | change EndG _ _ _ _ _ _ _ _ _ _ | change EndM _ _ _ _ _ _ _ | skip)) | (refine W_ret ?_; (first | change W _ _ _ _ _ | change EndQ _ _ _ _ _ _ | change Exists _ | change EndG _ _ _ _ _ _ _ _ _ _ | change EndM _ _ _ _ _ _ _ | skip)))
  exact end_b rfl rfl rfl rfl rfl rfl (by rw [encP_eq]; rfl)
set_option maxRecDepth 100000 in
theorem quant13_v (p : Pt) (l m : Int) : CallsV Try.prog 34 [.dat (encP p), vI l, vI m] (.val (.dat (encP (quantV p l m)))) := by
  (refine callsV_of_W (Ty := Ty) ty_ok Try.func34 rfl rfl rfl fun w0 S0 => ?_; simp only [argsF, List.zipIdx_cons, List.zipIdx_nil, List.map_cons, List.map_nil, Nat.zero_add])
  repeat (first | refine W_seq ?_ | refine W_region ?_ | (refine RL_nil ?_; (first | change W _ _ _ _ _ | change EndQ _ _ _ _ _ _ | change Exists _ | change EndG _ _ _ _ _ _ _ _ _ _ | change EndM _ _ _ _ _ _ _ | skip)) | (refine isRL ?_; first | refine uMv ?_ | (refine isLd ?_; first | refine uLp ?_ | refine uLb ?_ | refine uL1 ?_ | refine uL2 ?_ | refine uP ?_) | (refine isBd ?_; first | refine uBd ?_ | refine uP ?_) | (refine isSt ?_; first | refine uSw ?_ | refine uS ?_ | refine uSc ?_) | refine uBs ?_ | refine uP ?_ | refine uBx ?_ | refine uN ?_) | (refine W_skip ?_; (first | change W _ _ _ _ _ | change EndQ _ _ _ _ _ _ | change Exists _ | change EndG _ _ _ _ _ _ _ _ _ _ | change EndM _ _ _ _ _ _ _ | skip)) | (refine W_ret ?_; (first | change W _ _ _ _ _ | change EndQ _ _ _ _ _ _ | change Exists _ | change EndG _ _ _ _ _ _ _ _ _ _ | change EndM _ _ _ _ _ _ _ | skip)))
  exact end_b rfl rfl rfl rfl rfl rfl rfl
theorem and_rem20 (n : Int) : ∃ k : Nat, (IntKind.i64.wrap ((BitVec.ofInt IntKind.i64.bits n &&& BitVec.ofInt IntKind.i64.bits 255).toNat : Nat)).tmod 20 = (k : Int) ∧ k ≤ 19 := by
  have hb : (BitVec.ofInt IntKind.i64.bits n &&& BitVec.ofInt IntKind.i64.bits 255).toNat ≤ 255 := by
    rw [BitVec.toNat_and]
    have : (BitVec.ofInt IntKind.i64.bits 255).toNat = 255 := by decide
    rw [this]
    exact Nat.and_le_right
  generalize (BitVec.ofInt IntKind.i64.bits n &&& BitVec.ofInt IntKind.i64.bits 255).toNat = z at hb
  rw [IntWalk.i64_in (z : Int) (by omega)]
  refine ⟨z % 20, ?_, by omega⟩
  rw [Int.tmod_eq_emod_of_nonneg (by omega)]
  omega
end Go.Proofs.Ytgdgcloenhnbiaa
