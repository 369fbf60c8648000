/- The law's own builders of expressions: name, not, and, or; label.Names. -/
import Derived.Test.YtljkfobgbjnilaaWB
namespace Go.Proofs.Ytljkfobgbjnilaa
open Go.RowKit
theorem endE {X : Ctx} {fr : Fr} {σ : Obs} {rs : List ResultVar} {cs : List D} (e : E) (h : (retV X fr σ rs).bind dataV = some (.dat cs)) (hc : cs = [.v (.int .i64 e.kind), .v (.string e.name), .v (.int .i64 e.val.kind), .v (.int .i64 e.val.n), .v (.float .f64 e.val.f), .v (.string e.val.s), .sl (e.kids.map encE)] := by rfl) : EndQ X rs (.val (.dat (encE e))) .ret fr σ :=
  end_r h (by rw [hc, encE_eq])
set_option maxRecDepth 100000 in
theorem name_v (s : ByteArray) : CallsV Try.prog 27 [vS s] (.val (.dat (encE (nameE s)))) := by
  refine callsV_of_W (Ty := Ty) ty_ok Try.func27 rfl rfl rfl fun w0 S0 => ?_
  simp only [argsF, List.zipIdx_cons, List.zipIdx_nil, List.map_cons, List.map_nil, Nat.zero_add]
  repeat (first | refine uBd ?_ | refine uBs ?_ | refine uHm ?_ | refine uI ?_ | refine uB true ?_ | refine uB false ?_ | refine uP ?_ | refine uO ?_ | refine uX ?_ | refine uLp ?_ | refine uLb ?_ | refine uBx ?_ | refine uSw ?_ | refine uN ?_ | refine uS ?_ | refine uSc ?_ | refine uON ?_ | refine uA ?_ | refine uA0 ?_ | refine uH ?_ | refine mBd ?_ | refine mBs ?_ | refine mHm ?_ | refine mI ?_ | refine mB true ?_ | refine mB false ?_ | refine mP ?_ | refine mO ?_ | refine mX ?_ | refine mLp ?_ | refine mLb ?_ | refine mA ?_ | refine mA0 ?_ | refine mH ?_ | refine uAny ?_ | (refine RL_nil ?_; (try simp only [thenQ, blockQ, Nat.reduceEqDiff, reduceIte, if_true, if_false])) | (refine mN ?_; (try simp only [thenQ, blockQ, Nat.reduceEqDiff, reduceIte, if_true, if_false])) | refine W_seq ?_ | refine W_block ?_ | refine W_region ?_ | refine W_cond true (by rfl) (fun _ => ?_) (fun h => by cases h) | refine W_cond false (by rfl) (fun h => by cases h) (fun _ => ?_) | (refine W_skip ?_; (try simp only [thenQ, blockQ, Nat.reduceEqDiff, reduceIte, if_true, if_false])) | (refine W_exit ?_; (try simp only [thenQ, blockQ, Nat.reduceEqDiff, reduceIte, if_true, if_false])) | (refine W_ret ?_; (try simp only [thenQ, blockQ, Nat.reduceEqDiff, reduceIte, if_true, if_false])))
  exact endE (nameE s) (by rfl)
set_option maxRecDepth 100000 in
theorem not_v (e : E) : CallsV Try.prog 25 [.dat (encE e)] (.val (.dat (encE (notE e)))) := by
  refine callsV_of_W (Ty := Ty) ty_ok Try.func25 rfl rfl rfl fun w0 S0 => ?_
  simp only [argsF, List.zipIdx_cons, List.zipIdx_nil, List.map_cons, List.map_nil, Nat.zero_add]
  repeat (first | refine uBd ?_ | refine uBs ?_ | refine uHm ?_ | refine uI ?_ | refine uB true ?_ | refine uB false ?_ | refine uP ?_ | refine uO ?_ | refine uX ?_ | refine uLp ?_ | refine uLb ?_ | refine uBx ?_ | refine uSw ?_ | refine uN ?_ | refine uS ?_ | refine uSc ?_ | refine uON ?_ | refine uA ?_ | refine uA0 ?_ | refine uH ?_ | refine mBd ?_ | refine mBs ?_ | refine mHm ?_ | refine mI ?_ | refine mB true ?_ | refine mB false ?_ | refine mP ?_ | refine mO ?_ | refine mX ?_ | refine mLp ?_ | refine mLb ?_ | refine mA ?_ | refine mA0 ?_ | refine mH ?_ | refine uAny ?_ | (refine RL_nil ?_; (try simp only [thenQ, blockQ, Nat.reduceEqDiff, reduceIte, if_true, if_false])) | (refine mN ?_; (try simp only [thenQ, blockQ, Nat.reduceEqDiff, reduceIte, if_true, if_false])) | refine W_seq ?_ | refine W_block ?_ | refine W_region ?_ | refine W_cond true (by rfl) (fun _ => ?_) (fun h => by cases h) | refine W_cond false (by rfl) (fun h => by cases h) (fun _ => ?_) | (refine W_skip ?_; (try simp only [thenQ, blockQ, Nat.reduceEqDiff, reduceIte, if_true, if_false])) | (refine W_exit ?_; (try simp only [thenQ, blockQ, Nat.reduceEqDiff, reduceIte, if_true, if_false])) | (refine W_ret ?_; (try simp only [thenQ, blockQ, Nat.reduceEqDiff, reduceIte, if_true, if_false])))
  exact endE (notE e) (by rfl)
set_option maxRecDepth 100000 in
theorem and_v (a b : E) : CallsV Try.prog 23 [.dat (encE a), .dat (encE b)] (.val (.dat (encE (andE a b)))) := by
  refine callsV_of_W (Ty := Ty) ty_ok Try.func23 rfl rfl rfl fun w0 S0 => ?_
  simp only [argsF, List.zipIdx_cons, List.zipIdx_nil, List.map_cons, List.map_nil, Nat.zero_add]
  repeat (first | refine uBd ?_ | refine uBs ?_ | refine uHm ?_ | refine uI ?_ | refine uB true ?_ | refine uB false ?_ | refine uP ?_ | refine uO ?_ | refine uX ?_ | refine uLp ?_ | refine uLb ?_ | refine uBx ?_ | refine uSw ?_ | refine uN ?_ | refine uS ?_ | refine uSc ?_ | refine uON ?_ | refine uA ?_ | refine uA0 ?_ | refine uH ?_ | refine mBd ?_ | refine mBs ?_ | refine mHm ?_ | refine mI ?_ | refine mB true ?_ | refine mB false ?_ | refine mP ?_ | refine mO ?_ | refine mX ?_ | refine mLp ?_ | refine mLb ?_ | refine mA ?_ | refine mA0 ?_ | refine mH ?_ | refine uAny ?_ | (refine RL_nil ?_; (try simp only [thenQ, blockQ, Nat.reduceEqDiff, reduceIte, if_true, if_false])) | (refine mN ?_; (try simp only [thenQ, blockQ, Nat.reduceEqDiff, reduceIte, if_true, if_false])) | refine W_seq ?_ | refine W_block ?_ | refine W_region ?_ | refine W_cond true (by rfl) (fun _ => ?_) (fun h => by cases h) | refine W_cond false (by rfl) (fun h => by cases h) (fun _ => ?_) | (refine W_skip ?_; (try simp only [thenQ, blockQ, Nat.reduceEqDiff, reduceIte, if_true, if_false])) | (refine W_exit ?_; (try simp only [thenQ, blockQ, Nat.reduceEqDiff, reduceIte, if_true, if_false])) | (refine W_ret ?_; (try simp only [thenQ, blockQ, Nat.reduceEqDiff, reduceIte, if_true, if_false])))
  exact endE (andE a b) (by rfl)
set_option maxRecDepth 100000 in
theorem or_v (a b : E) : CallsV Try.prog 24 [.dat (encE a), .dat (encE b)] (.val (.dat (encE (orE a b)))) := by
  refine callsV_of_W (Ty := Ty) ty_ok Try.func24 rfl rfl rfl fun w0 S0 => ?_
  simp only [argsF, List.zipIdx_cons, List.zipIdx_nil, List.map_cons, List.map_nil, Nat.zero_add]
  repeat (first | refine uBd ?_ | refine uBs ?_ | refine uHm ?_ | refine uI ?_ | refine uB true ?_ | refine uB false ?_ | refine uP ?_ | refine uO ?_ | refine uX ?_ | refine uLp ?_ | refine uLb ?_ | refine uBx ?_ | refine uSw ?_ | refine uN ?_ | refine uS ?_ | refine uSc ?_ | refine uON ?_ | refine uA ?_ | refine uA0 ?_ | refine uH ?_ | refine mBd ?_ | refine mBs ?_ | refine mHm ?_ | refine mI ?_ | refine mB true ?_ | refine mB false ?_ | refine mP ?_ | refine mO ?_ | refine mX ?_ | refine mLp ?_ | refine mLb ?_ | refine mA ?_ | refine mA0 ?_ | refine mH ?_ | refine uAny ?_ | (refine RL_nil ?_; (try simp only [thenQ, blockQ, Nat.reduceEqDiff, reduceIte, if_true, if_false])) | (refine mN ?_; (try simp only [thenQ, blockQ, Nat.reduceEqDiff, reduceIte, if_true, if_false])) | refine W_seq ?_ | refine W_block ?_ | refine W_region ?_ | refine W_cond true (by rfl) (fun _ => ?_) (fun h => by cases h) | refine W_cond false (by rfl) (fun h => by cases h) (fun _ => ?_) | (refine W_skip ?_; (try simp only [thenQ, blockQ, Nat.reduceEqDiff, reduceIte, if_true, if_false])) | (refine W_exit ?_; (try simp only [thenQ, blockQ, Nat.reduceEqDiff, reduceIte, if_true, if_false])) | (refine W_ret ?_; (try simp only [thenQ, blockQ, Nat.reduceEqDiff, reduceIte, if_true, if_false])))
  exact endE (orE a b) (by rfl)
theorem names_v (e : E) (hN : (namesN 50 e).length ≤ 1000000000000) : CallsV Try.prog 15 [.dat (encE e)] (.val (vL ((sortedNames e).map encS))) :=
  ⟨enters Try.func15 rfl rfl, fun S w vs h lt => by
    obtain ⟨v, rfl, h1⟩ := args1 h
    obtain ⟨us, rfl, h2⟩ := pv_dat h1
    refine (labelNames_calls (rw_of_rd e us h2) (fun _ hk => hk) hN w (Below.refl _ _)).mono fun r w' hr => ?_
    obtain ⟨A, c, rfl, hs, hb⟩ := hr
    refine ⟨_, fun b o => S b o ∨ (w.heap.size ≤ b ∧ b < w'.heap.size), rfl, hb, fun _ _ hs => .inl hs, fun _ _ hs => hs, fun γ T => .one ?_⟩
    exact rd_of_sl hs fun b o h1 h2 => .inr ⟨h1, h2⟩⟩
end Go.Proofs.Ytljkfobgbjnilaa
