/- Walks: a machine gets a state, a move. -/
import Derived.Test.YtjhkehloipmjfaaQ0
import Derived.Test.YtjhkehloipmjfaaVA
import Derived.Test.YtjhkehloipmjfaaVC
namespace Go.Proofs.Ytjhkehloipmjfaa
open Go.RowKit
def encMv (v : Mv) : List D := [.v (.int .i64 v.src), .v (.int .i64 v.dst), .v (.int .i64 v.elem)]
def autoS (m : Mach) : Obs := [(1000, .obj 66 [.own 1001 (m.elems.map encP), .own 1002 (m.moves.map encMv), .d (.v (.int .i64 m.states))]), (1001, .tok 53 20), (1002, .tok 73 3)]
theorem ev_const (fr : Fr) (v : Value) : ev fr (.const v) = constV v := rfl
theorem const_zP : constV (.agg #[.int .i64 0, .string ⟨#[]⟩, .int .i64 0, .int .i64 0, .string ⟨#[]⟩, .int .i64 0, .int .i64 0, .float .f64 0, .string ⟨#[]⟩, .slice none 0 0, .int .i64 0, .string ⟨#[]⟩, .int .i64 0, .int .i64 0, .float .f64 0, .string ⟨#[]⟩, .slice none 0 0, .int .i64 0, .int .i64 0, .slice none 0 0]) = some (.dat zPat) := by kernel_rfl
theorem lay_zP (fr : Fr) : layR 20 fr 0 [(0, .const (.agg #[.int .i64 0, .string ⟨#[]⟩, .int .i64 0, .int .i64 0, .string ⟨#[]⟩, .int .i64 0, .int .i64 0, .float .f64 0, .string ⟨#[]⟩, .slice none 0 0, .int .i64 0, .string ⟨#[]⟩, .int .i64 0, .int .i64 0, .float .f64 0, .string ⟨#[]⟩, .slice none 0 0, .int .i64 0, .int .i64 0, .slice none 0 0]))] = some [zPat] :=
  layR_cons (by rw [ev_const, const_zP]; rfl) (by rfl) (layR_nil _ _ _)
theorem sized_Mv (l : List Mv) : sized 3 (l.map encMv) = true := by
  unfold sized; rw [List.all_map]; exact List.all_eq_true.2 fun _ _ => rfl
set_option maxRecDepth 100000 in
theorem state_m (m : Mach) (hb : fits 1 m) : CallsM Try.prog 87 [.one (.po 1000 0)] (autoS m) (vI m.states) (autoS (stM m)) := by
  obtain ⟨h1, h2, h3, h4⟩ := hb
  have e1 : m.states + 1 - 1 = m.states := by omega
  unfold autoS
  (refine callsM_of_W (Ty := Ty) ty_ok Try.func87 rfl rfl rfl (by rfl) fun w0 S0 hp => ?_; simp only [argsF, List.zipIdx_cons, List.zipIdx_nil, List.map_cons, List.map_nil, Nat.zero_add])
  repeat' (first | refine W_seq ?_ | refine W_region ?_ | (refine RL_nil ?_; (first | change W _ _ _ _ _ | change EndQ _ _ _ _ _ _ | change Exists _ | change EndG _ _ _ _ _ _ _ _ _ _ | change EndM _ _ _ _ _ _ _ | skip)) | (refine isRL ?_; first | refine uMv ?_ | refine uAs ?_ | (refine isBin ?_; first | refine uIb ?_ | refine uCat ?_ | refine uP ?_) | (refine isLd ?_; first | refine uLp ?_ | refine uLb ?_ | refine uL1 ?_ | refine uL2 ?_ | refine uP ?_) | (refine isFa ?_; first | refine uP ?_) | (refine isSt ?_; first | refine uSw ?_ | refine uS ?_ | refine uSc ?_ | refine uSo ?_) | refine uNp ?_ | refine uP ?_) | (refine W_skip ?_; (first | change W _ _ _ _ _ | change EndQ _ _ _ _ _ _ | change Exists _ | change EndG _ _ _ _ _ _ _ _ _ _ | change EndM _ _ _ _ _ _ _ | skip)) | (refine W_ret ?_; (first | change W _ _ _ _ _ | change EndQ _ _ _ _ _ _ | change Exists _ | change EndG _ _ _ _ _ _ _ _ _ _ | change EndM _ _ _ _ _ _ _ | skip)))
  exact end_m (by rfl) (by rw [e1]) (by (repeat (first | exact gHas_nil _ | refine gHas_cons (by rfl) ?_)))
set_option maxRecDepth 100000 in
theorem move_m (m : Mach) (s t e : Int) (hb : m.moves.length + 1 ≤ 40000) : CallsM Try.prog 86 [.one (.po 1000 0), vI s, vI t, vI e] (autoS m) (.tup []) (autoS (mvM s t e m)) := by
  have hz := sized_Mv m.moves
  unfold autoS
  (refine callsM_of_W (Ty := Ty) ty_ok Try.func86 rfl rfl rfl (by rfl) fun w0 S0 hp => ?_; simp only [argsF, List.zipIdx_cons, List.zipIdx_nil, List.map_cons, List.map_nil, Nat.zero_add])
  have hnx : m.moves.map encMv ++ [[.v (.int .i64 s), .v (.int .i64 t), .v (.int .i64 e)]] = (m.moves ++ [Mv.mk s t e]).map encMv := by rw [List.map_append]; rfl
  repeat' (first | refine W_seq ?_ | refine W_region ?_ | (refine RL_nil ?_; (first | change W _ _ _ _ _ | change EndQ _ _ _ _ _ _ | change Exists _ | change EndG _ _ _ _ _ _ _ _ _ _ | change EndM _ _ _ _ _ _ _ | skip)) | (refine isRL ?_; first | refine uMv ?_ | (refine isLd ?_; first | refine uLp ?_ | refine uLb ?_ | refine uL1 ?_ | refine uL2 ?_ | refine uP ?_) | (refine isCl ?_; first | refine uP ?_ | refine uAk ?_ | refine uA ?_ | refine uA0 ?_ | refine uWl ?_) | (refine isFa ?_; first | refine uP ?_) | (refine isBd ?_; first | refine uBd ?_ | refine uP ?_) | (refine isSt ?_; first | refine uSw ?_ | refine uS ?_ | refine uSc ?_ | refine uSo ?_) | refine uBs ?_ | refine uNp ?_ | refine uP ?_) | (refine W_skip ?_; (first | change W _ _ _ _ _ | change EndQ _ _ _ _ _ _ | change Exists _ | change EndG _ _ _ _ _ _ _ _ _ _ | change EndM _ _ _ _ _ _ _ | skip)) | (refine W_ret ?_; (first | change W _ _ _ _ _ | change EndQ _ _ _ _ _ _ | change Exists _ | change EndG _ _ _ _ _ _ _ _ _ _ | change EndM _ _ _ _ _ _ _ | skip)))
  exact end_mn (by rfl) rfl (by (repeat (first | exact gHas_nil _ | refine gHas_cons (by rfl) ?_)))
end Go.Proofs.Ytjhkehloipmjfaa
