/- Walks: truths; who throws what is wrong. -/
import Derived.Test.YtjhkehloipmjfaaGreatMD
import Derived.Test.YtjhkehloipmjfaaGreatVG
import Derived.Test.YtjhkehloipmjfaaGreatRB
import Derived.Laws.FloatArith
import Derived.Test.YtjhkehloipmjfaaGreatMY
import Derived.Test.YtjhkehloipmjfaaGreatA1
import Derived.MapKept
import Derived.WalkKit
import Derived.Lib.Mul64
import Derived.Laws.Bits64b
namespace Go.Proofs.YtjhkehloipmjfaaGreat
open Go.RowKit
def encT (t : Int) : List D := [.v (.int .i64 t)]
def zeroVal : Val := ⟨0, 0, 0, ⟨#[]⟩⟩
end Go.Proofs.YtjhkehloipmjfaaGreat
/- Walks: the reference's values: tests, sums, truths. Of the results nothing is said but that they are. -/
namespace Go.Proofs.YtjhkehloipmjfaaGreat
open Go.RowKit
abbrev OneV : VV → Obs → Prop := fun y σ1 => ∃ i : Val, y = .dat (encV i) ∧ σ1 = [] ∧ True
abbrev ValI : VV → Obs → Prop := fun y σ1 => ∃ i : Val × Int, y = .tup [.dat (encV i.1), vI i.2] ∧ σ1 = [] ∧ True
abbrev Bool3 : VV → Obs → Prop := fun y σ1 => ∃ i : Bool × Bool × Bool, y = .tup [vB i.1, vB i.2.1, vB i.2.2] ∧ σ1 = [] ∧ True
set_option maxRecDepth 100000 in
theorem null02_x : CallsN Tryz.prog 174 [] [] OneV := by
  skip
  refine callsN_of_W (Ty := Ty) ty_ok Tryz.func174 rfl rfl rfl (by rfl) fun w0 S0 hp => ?_
  simp only [argsF, List.zipIdx_nil, List.map_nil]
  repeat' (first | refine W_seq ?_ | refine W_region ?_ | ((first | refine RL_nil ?_ | refine W_ret ?_); (first | change W _ _ _ _ _ | change Exists _ )) | (refine isRL ?_; first | (refine isBd ?_; first | refine uBd ?_ ) | (refine isSt ?_; first | refine uSw ?_ ) | refine uN ?_))
  all_goals exact end_x (by rfl) rfl (by (repeat (first | exact gHas_nil _ ))) ⟨⟨_, _, _, _⟩, rfl, rfl, trivial⟩
set_option maxRecDepth 100000 in
theorem number02_x (v : Val) : CallsN Tryz.prog 175 [.dat (encV v)] [] OneB := by
  (refine callsN_of_W (Ty := Ty) ty_ok Tryz.func175 rfl rfl rfl (by rfl) fun w0 S0 hp => ?_; simp only [argsF, List.zipIdx_cons, List.zipIdx_nil, List.map_cons, List.map_nil, Nat.zero_add])
  repeat' (first | refine W_seq ?_ | refine W_region ?_ | ((first | refine RL_nil ?_ | refine W_ret ?_); (first | change W _ _ _ _ _ | change EndN _ _ _ _ _ _ )) | (refine isRL ?_; first | refine uMv ?_ | refine uAs ?_ | refine uO ?_ | (refine isBin ?_; first | refine uP ?_) | (refine isLd ?_; first | refine uL1 ?_ ) | (refine isFa ?_; first | refine uP ?_) | refine uP ?_ | refine uBx ?_ | ((first | refine uGsD ?_ ?_ ) <;> intro hb)))
  all_goals exact end_x (by rfl) rfl (by (repeat (first | exact gHas_nil _ ))) ⟨_, rfl, rfl, trivial⟩
set_option maxRecDepth 100000 in
theorem truth02_x (b : Bool) : CallsN Tryz.prog 180 [vB b] [] OneV := by
  (refine callsN_of_W (Ty := Ty) ty_ok Tryz.func180 rfl rfl rfl (by rfl) fun w0 S0 hp => ?_; simp only [argsF, List.zipIdx_cons, List.zipIdx_nil, List.map_cons, List.map_nil, Nat.zero_add])
  repeat' (first | refine W_seq ?_ | refine W_region ?_ | ((first | refine RL_nil ?_ | refine W_skip ?_ | refine W_ret ?_); (first | change W _ _ _ _ _ | change EndN _ _ _ _ _ _ | change Exists _ )) | (refine isRL ?_; first | refine uMv ?_ | (refine isBd ?_; first | refine uBd ?_ ) | (refine isSt ?_; first | refine uSw ?_ ) | refine uN ?_) | ((first | refine wCs ?_ ?_) <;> intro hb))
  all_goals exact end_x (by rfl) rfl (by (repeat (first | exact gHas_nil _ ))) ⟨⟨_, _, _, _⟩, rfl, rfl, trivial⟩
set_option maxRecDepth 100000 in
theorem sum02_x (a b : Int) : CallsN Tryz.prog 177 [vI a, vI b] [] IntB := by
  (refine callsN_of_W (Ty := Ty) ty_ok Tryz.func177 rfl rfl rfl (by rfl) fun w0 S0 hp => ?_; simp only [argsF, List.zipIdx_cons, List.zipIdx_nil, List.map_cons, List.map_nil, Nat.zero_add])
  repeat' (first | refine W_seq ?_ | refine W_region ?_ | ((first | refine RL_nil ?_ | refine W_skip ?_ | refine W_ret ?_); (first | change W _ _ _ _ _ | change EndN _ _ _ _ _ _ | change Exists _ )) | (refine isRL ?_; first | refine uMv ?_ | refine uAs ?_ | refine uO ?_ | (refine isBin ?_; first | refine uBb false ?_ | refine uP ?_) | refine uP ?_ | ((first | refine uGsD ?_ ?_ ) <;> intro hb)) | refine wT fun _ => ?_ | refine wF fun _ => ?_ | ((first | refine wCsD ?_ ?_ ) <;> intro hb))
  all_goals exact end_x (by rfl) rfl (by (repeat (first | exact gHas_nil _ ))) ⟨(_, _), rfl, rfl, trivial⟩
set_option maxRecDepth 100000 in
theorem times02_x (a b : Int) : CallsN Tryz.prog 176 [vI a, vI b] [] IntB := by
  (refine callsN_of_W (Ty := Ty) ty_ok Tryz.func176 rfl rfl rfl (by rfl) fun w0 S0 hp => ?_; simp only [argsF, List.zipIdx_cons, List.zipIdx_nil, List.map_cons, List.map_nil, Nat.zero_add])
  repeat' (first | refine W_seq ?_ | refine W_region ?_ | ((first | refine RL_nil ?_ | refine W_skip ?_ | refine W_ret ?_ ); (first | change W _ _ _ _ _ | change EndN _ _ _ _ _ _ | change Exists _ )) | (refine isRL ?_; first | refine uMv ?_ | refine uAs ?_ | refine uO ?_ | (refine isBin ?_; first | refine uP ?_) | refine uP ?_ | ((first | refine uGsD ?_ ?_ ) <;> intro hb)) | refine wT fun _ => ?_ | refine uAny ?_ | (refine isD ?_; first | refine mQuo ?_ | refine mMv ?_ | refine mAs ?_ | (refine imBin ?_; first | refine mP ?_) ) | ((first | refine wCsD ?_ ?_ ) <;> intro hb))
  all_goals exact end_x (by rfl) rfl (by (repeat (first | exact gHas_nil _ ))) ⟨(_, _), rfl, rfl, trivial⟩
set_option maxRecDepth 100000 in
set_option maxHeartbeats 4000000 in
theorem less02_x (a b : Val) : CallsN Tryz.prog 179 [.dat (encV a), .dat (encV b)] [] Bool3 := by
  have h1 := against_x a.n b.f
  have h2 := against_x b.n a.f
  have h3 := nanB_v a.f
  have h4 := nanB_v b.f
  have h5 := order_x a.f b.f
  have h6 := bitsF_v a.f
  have h7 := bitsF_v b.f
  (refine callsN_of_W (Ty := Ty) ty_ok Tryz.func179 rfl rfl rfl (by rfl) fun w0 S0 hp => ?_; simp only [argsF, List.zipIdx_cons, List.zipIdx_nil, List.map_cons, List.map_nil, Nat.zero_add])
  repeat' (first | refine W_seq ?_ | refine W_region ?_ | ((first | refine RL_nil ?_ | refine W_skip ?_ | refine W_ret ?_ ); (first | change W _ _ _ _ _ | change EndN _ _ _ _ _ _ | change Exists _ )) | (refine isRL ?_; first | refine uNx h1 (fun i _ => ?_) | refine uNx h2 (fun i _ => ?_) | refine uNx h5 (fun i _ => ?_) | refine uShl (fun z => ?_) | refine uMv ?_ | refine uAs ?_ | refine uO ?_ | (refine isBin ?_; first | refine uBb true ?_ | refine uBb false ?_ | refine uP ?_) | (refine isLd ?_; first | refine uL1 ?_ ) | (refine isCl ?_; first | refine uC (h3) ?_ | refine uC (h4) ?_ | refine uC (h6) ?_ | refine uC (h7) ?_ ) | (refine isFa ?_; first | refine uP ?_) | refine uBu true ?_ | refine uP ?_ | refine uBx ?_ | ((first | refine uGsD ?_ ?_ | refine uGsNB ?_ ?_ ) <;> intro hb)) | refine wT fun _ => ?_ | refine wF fun _ => ?_ | refine uAny ?_ | (refine isD ?_; first | refine mAs ?_ | (refine imBin ?_; first | refine mP ?_) | (refine imLd ?_; first | refine mL1 ?_ ) | (refine imFa ?_; first | refine mP ?_) ) | ((first | refine wCsD ?_ ?_ ) <;> intro hb))
  all_goals first | exact end_x (by rfl) rfl (by (repeat (first | exact gHas_nil _ ))) ⟨(_, _, _), rfl, rfl, trivial⟩ 
set_option maxRecDepth 100000 in
set_option maxHeartbeats 8000000 in
theorem test02_x (op : ByteArray) (a b : Val) : CallsN Tryz.prog 150 [vS op, .dat (encV a), .dat (encV b)] [] ValI := by
  have h1 := right02_v a
  have h2 := right02_v b
  have h3 := null02_x
  have h4 := number02_x a
  have h5 := number02_x b
  have h6 := less02_x a b
  have h7 := truth02_x
  (refine callsN_of_W (Ty := Ty) ty_ok Tryz.func150 rfl rfl rfl (by rfl) fun w0 S0 hp => ?_; simp only [argsF, List.zipIdx_cons, List.zipIdx_nil, List.map_cons, List.map_nil, Nat.zero_add])
  repeat' (first | refine W_mid 3 (fun b' : Bool => [(0, vS op), (4, .one (.po 4 0)), (5, .one (.po 5 0)), (6, .one (.po 6 0)), (8, vB (right02 a)), (9, vB (right02 b)), (10, vB b')]) (fun _ => [(4, .box 28 (encV a)), (5, .box 28 (encV b)), (6, .box 28 (encV zeroVal))]) ?_ (fun b' => ?_) | refine W_seq ?_ | refine W_region ?_ | ((first | refine RL_nil ?_ | refine W_skip ?_ | refine W_ret ?_); (first | change W _ _ _ _ _ | change EndN _ _ _ _ _ _ | change Exists _ )) | (refine isRL ?_; first | refine uNx h3 (fun i _ => ?_) | refine uNx h4 (fun i _ => ?_) | refine uNx h5 (fun i _ => ?_) | refine uNx h6 (fun i _ => ?_) | refine uNx (h7 _) (fun i _ => ?_) | refine uMv ?_ | refine uAs ?_ | refine uO ?_ | (refine isBin ?_; first | refine uP ?_) | (refine isLd ?_; first | refine uLb ?_ | refine uL1 ?_ ) | (refine isCl ?_; first | refine uC (h1) ?_ | refine uC (h2) ?_ ) | (refine isFa ?_; first | refine uP ?_) | (refine isSt ?_; first | refine uSw ?_ ) | refine uBu true ?_ | refine uP ?_ | refine uBx ?_ | refine uN ?_ | ((first | refine uGsD ?_ ?_ | refine uGsN ?_ ?_ | refine uGsNB ?_ ?_ | refine uGs ?_ ?_) <;> intro hb)) | refine W_block ?_ | refine wT fun _ => ?_ | refine wF fun _ => ?_ | ((first | refine wCsD ?_ ?_ | refine wCsNB ?_ ?_ | refine wCs ?_ ?_) <;> intro hb))
  all_goals first | exact end_x (by rfl) rfl (by (repeat (first | exact gHas_nil _ ))) ⟨(_, _), rfl, rfl, trivial⟩ | exact ⟨_, (by (repeat (first | exact sub_nil _ | refine sub_cons (by rfl) ?_))), (by (repeat (first | exact sub_nil _ | refine sub_cons (by rfl) ?_)))⟩ 
end Go.Proofs.YtjhkehloipmjfaaGreat
/- Floats: sums and products in either order; a float below 2^63 made whole is a whole number of 64 bits. -/
namespace Go.Proofs.YtjhkehloipmjfaaGreat
open Ieee
end Go.Proofs.YtjhkehloipmjfaaGreat
/- Walks: numbers against each other. -/
namespace Go.Proofs.YtjhkehloipmjfaaGreat
open Go.RowKit
end Go.Proofs.YtjhkehloipmjfaaGreat
/- Walks: tests of two values; a map of functions. -/
namespace Go.Proofs.YtjhkehloipmjfaaGreat
open Go.RowKit
section
variable {nt : Nat} {w0 : W0} {S0 : Nat → Nat → Prop} {fr : Fr} {σ : Obs} {ops : Array Oper} {o1 o2 o3 : Oper} {rest : List Oper} {Q : Fr → Obs → Prop} {d1 d2 d3 i : Nat} {x : Operand} {s : ByteArray} {g : FuncId}
end
end Go.Proofs.YtjhkehloipmjfaaGreat
/- Regions whose order is open with a tail whose order is not: each of its operations waits for all ahead of it. -/
namespace Go.Proofs.YtjhkehloipmjfaaGreat
open Go.RowKit
section
variable {nt : Nat} {w0 : W0} {S0 : Nat → Nat → Prop} {fr : Fr} {σ : Obs}
end
end Go.Proofs.YtjhkehloipmjfaaGreat
/- Walks: reckoning. -/
namespace Go.Proofs.YtjhkehloipmjfaaGreat
open Go.RowKit
/-! ### floats -/
def opF : Nat → BinOp
  | 0 => .add
  | 1 => .sub
  | _ => .mul
/-- the sum, the difference, the product, with one nan for all -/
def arF (k : Nat) (x y : Nat) : Nat := match floatBits (opF k) .f64 x y with
  | some r => canon r
  | none => nanBits
theorem nan_read (t : Nat) : FloatKind.f64.format.order ((t % 2) * 2 ^ 63 + 0x7ff0000000000000 + 1 + (t / 2) % (2 ^ 52 - 1)) ((t % 2) * 2 ^ 63 + 0x7ff0000000000000 + 1 + (t / 2) % (2 ^ 52 - 1)) = none := by
  obtain ⟨u, hu⟩ : ∃ u, t % 2 = u := ⟨_, rfl⟩
  obtain ⟨v, hv⟩ : ∃ v, (t / 2) % (2 ^ 52 - 1) = v := ⟨_, rfl⟩
  have hu2 : u = 0 ∨ u = 1 := by omega
  have hv2 : v < 2 ^ 52 - 1 := by rw [← hv]; exact Nat.mod_lt _ (by decide)
  rw [hu, hv]
  clear hu hv
  obtain ⟨b, hb⟩ : ∃ b, u * 2 ^ 63 + 0x7ff0000000000000 + 1 + v = b := ⟨_, rfl⟩
  rw [hb]
  obtain ⟨s, f, hr⟩ : ∃ s f, Ieee.double.read b = .nan s f := by
    unfold Ieee.Format.read
    have hsw : Ieee.double.signWeight = 2 ^ 63 := rfl
    have hbi : Ieee.double.binade = 2 ^ 52 := rfl
    have hinf : Ieee.double.infRung = 2047 * 2 ^ 52 := rfl
    rw [hsw, hbi, hinf]
    simp only
    rw [if_neg (by omega), if_neg (by omega), if_neg (by omega)]
    exact ⟨_, _, rfl⟩
  show (Ieee.double.read b).order (Ieee.double.read b) = none
  rw [hr]
  rfl
theorem run_ar (k : Nat) (t : TypeId) (x y : Nat) (w : World) : ∃ b w', (binOp (opF k) t (.float .f64 x) (.float .f64 y)).run Tryz.prog w = .ok (.float .f64 b) w' ∧ Below w.heap.size w w' ∧ canon b = arF k x y := by
  cases h : floatBits (opF k) .f64 x y with
  | some r => exact ⟨r, w, run_float_arith w _ t .f64 x y r h, .refl _ _, by unfold arF; rw [h]⟩
  | none =>
    have hcan : ∀ t, canon ((t % 2) * 2 ^ 63 + 0x7ff0000000000000 + 1 + (t / 2) % (2 ^ 52 - 1)) = arF k x y := fun t => by
      unfold canon Op.floatEq arF
      rw [nan_read, h]
      rfl
    have hop : ∀ (op : BinOp), op = .add ∨ op = .sub ∨ op = .mul → floatBits op .f64 x y = none → ∃ b w', (binOp op t (.float .f64 x) (.float .f64 y)).run Tryz.prog w = .ok (.float .f64 b) w' ∧ Below w.heap.size w w' ∧ canon b = arF k x y := by
      intro op ho hn
      unfold floatBits at hn
      rcases ho with rfl | rfl | rfl
      all_goals
        simp only at hn
        refine ⟨Question.cut (.nanBits .f64 x y) (w.tape w.drawn (.nanBits .f64 x y)), { w with drawn := w.drawn + 1 }, ?_, ⟨rfl, rfl, rfl, Nat.le_refl _, fun _ _ => rfl⟩, hcan _⟩
        simp [binOp, Op.floatArith, hn, choose, Sem.run, Question.forced, Question.cut]
    refine hop _ ?_ h
    match k with
    | 0 => exact .inl rfl
    | 1 => exact .inr (.inl rfl)
    | k + 2 => exact .inr (.inr rfl)
section
variable {nt : Nat} {w0 : W0} {S0 : Nat → Nat → Prop} {fr : Fr} {σ : Obs} {ops : Array Oper} {o o1 o2 : Oper} {rest : List Oper} {Q : Fr → Obs → Prop} {d d1 d2 x y : Nat} {xx yy : Operand} {t t2 : TypeId} {ats : Array TypeId}
/-- a whole number made a float -/
theorem uIF {n : Int} (h : RL (cx nt w0 S0) ops rest ((d, vF (FloatKind.f64.nearest n)) :: fr) σ Q) (ho : o.op = .convert 2 26 xx := by rfl) (hx : ev fr xx = some (vI n) := by rfl)
    (hw : wantA ops o fr = some true := by rfl) (hdst : o.dst = some d := by rfl) (hd : Nat.blt d nt = true := by rfl) : RL (cx nt w0 S0) ops (o :: rest) fr σ Q :=
  uRaw (fun γ T S w a hr => by
    have e1 := val_sound (ev_sound hr hx)
    refine ⟨.float .f64 (FloatKind.f64.nearest n), w, S, ?_, grows_refl S w, fun _ _ => .one (.v _ rfl)⟩
    simp [execOp, ho, e1, convert, run_underlying Tryz.underlying26, run_underlying Tryz.underlying2, Conv.intToFloat]) h hw hdst hd
end
end Go.Proofs.YtjhkehloipmjfaaGreat
/- Walks: the reference's reckoning and truths. Of the results nothing is said but that they are. -/
namespace Go.Proofs.YtjhkehloipmjfaaGreat
open Go.RowKit
section
variable {w0 : W0} {S0 : Nat → Nat → Prop} {nt : Nat} {fr : Fr} {σ : Obs} {o : Oper} {ops : Array Oper} {rest : List Oper} {d : Nat} {t t2 : TypeId} {Q : Fr → Obs → Prop} {xx yy : Operand} {x y : Nat}
/-- floats are reckoned -/
theorem uFop (k : Nat) (h : ∀ b, RL (cx nt w0 S0) ops rest ((d, vF b) :: fr) σ Q) (ho : o.op = .binOp (opF k) t xx yy t2 := by rfl) (hdst : o.dst = some d := by rfl) (hd : Nat.blt d nt = true := by rfl) (hw : wantA ops o fr = some true := by rfl) (hx : ev fr xx = some (vF x) := by rfl) (hy : ev fr yy = some (vF y) := by rfl) : RL (cx nt w0 S0) ops (o :: rest) fr σ Q :=
  ⟨fun γ T S w a K hr hk => wpList_step fun K' hK => by
    rw [if_pos (wantA_sound hr hw)]
    have v1 := val_sound (ev_sound hr hx)
    have v2 := val_sound (ev_sound hr hy)
    obtain ⟨b, w', hrun, hbel, _⟩ := run_ar k t x y w
    have x1 : (execOp a.eval o).run Tryz.prog w = .ok (.value (.float .f64 b)) w' := by
      clear h
      match k, ho, hrun with
      | 0, ho, hrun => simp only [opF] at ho hrun; simp [execOp, ho, v1, v2, eqGuard, hrun]
      | 1, ho, hrun => simp only [opF] at ho hrun; simp [execOp, ho, v1, v2, eqGuard, hrun]
      | k + 2, ho, hrun => simp only [opF] at ho hrun; simp [execOp, ho, v1, v2, eqGuard, hrun]
    unfold Oper.wp
    show Oper.upon Tryz.prog o a K' K ((execOp a.eval o).run Tryz.prog w)
    rw [x1, Oper.upon_value]
    refine hK _ _ ((h b).out γ T S w' _ K ?_ hk)
    rw [hdst]
    exact (hr.grow hbel (fun _ _ h => h) (fun _ _ h => .inl h)).put (dst := some d) hd (.one (.v _ rfl))⟩
end
theorem from_bits (n : Int) : ∃ f : Nat, ExtV Tryz.prog 164 [vUE n] (vF f) := by
  refine ⟨?f, ⟨fun S w vs h => ?_⟩⟩
  case f => exact n.toNat
  obtain ⟨v, rfl, h1⟩ := args1 h
  rw [pv_v h1]
  exact ⟨_, by kernel_rfl, fun _ _ => .one (.v _ rfl)⟩
noncomputable def fromF (n : Int) : Nat := Classical.choose (from_bits n)
theorem fromF_v (n : Int) : ExtV Tryz.prog 164 [vUE n] (vF (fromF n)) := Classical.choose_spec (from_bits n)
set_option maxRecDepth 100000 in
set_option maxHeartbeats 16000000 in
theorem reckon02_x (op : ByteArray) (a b : Val) : CallsN Tryz.prog 149 [vS op, .dat (encV a), .dat (encV b)] [] ValI := by
  have h1 := right02_v a
  have h2 := right02_v b
  have h3 := null02_x
  have h4 := number02_x a
  have h5 := number02_x b
  have h6 := times02_x a.n b.n
  have h7 := sum02_x
  (refine callsN_of_W (Ty := Ty) ty_ok Tryz.func149 rfl rfl rfl (by rfl) fun w0 S0 hp => ?_; simp only [argsF, List.zipIdx_cons, List.zipIdx_nil, List.map_cons, List.map_nil, Nat.zero_add])
  repeat' (first | refine W_seq ?_ | refine W_region ?_ | ((first | refine RL_nil ?_ | refine W_skip ?_ | refine W_ret ?_); (first | change W _ _ _ _ _ | change EndN _ _ _ _ _ _ | change Exists _ )) | (refine isRL ?_; first | refine uNx h3 (fun i _ => ?_) | refine uNx h4 (fun i _ => ?_) | refine uNx h5 (fun i _ => ?_) | refine uNx h6 (fun i _ => ?_) | refine uNx (h7 _ _) (fun i _ => ?_) | refine uIF ?_ | refine uFop 0 (fun z => ?_) | refine uFop 1 (fun z => ?_) | refine uFop 2 (fun z => ?_) | refine uMv ?_ | refine uAs ?_ | refine uO ?_ | (refine isBin ?_; first | refine uBb true ?_ | refine uBb false ?_ | refine uP ?_) | (refine isLd ?_; first | refine uLb ?_ | refine uL1 ?_ ) | (refine isCl ?_; first | refine uC (h1) ?_ | refine uC (h2) ?_ | refine uC (bitsF_v _) ?_ | refine uE (fromF_v _) ?_ ) | (refine isFa ?_; first | refine uP ?_) | (refine isBd ?_; first | refine uBd ?_ ) | (refine isSt ?_; first | refine uSw ?_ ) | refine uP ?_ | refine uBx ?_ | refine uN ?_ | ((first | refine uGsD ?_ ?_ | refine uGsNB ?_ ?_ | refine uGs ?_ ?_) <;> intro hb)) | refine wT fun _ => ?_ | refine wF fun _ => ?_ | ((first | refine wCsD ?_ ?_ | refine wCsND ?_ ?_ | refine wCsNB ?_ ?_ | refine wCs ?_ ?_) <;> intro hb))
  all_goals first | exact end_x (by rfl) rfl (by (repeat (first | exact gHas_nil _ ))) ⟨(_, _), rfl, rfl, trivial⟩ | exact end_x (by rfl) rfl (by (repeat (first | exact gHas_nil _ ))) ⟨(⟨_, _, _, _⟩, _), rfl, rfl, trivial⟩
end Go.Proofs.YtjhkehloipmjfaaGreat
/- Walks: the reference's truths. -/
namespace Go.Proofs.YtjhkehloipmjfaaGreat
open Go.RowKit
abbrev IntI : VV → Obs → Prop := fun y σ1 => ∃ i : Int × Int, y = .tup [vI i.1, vI i.2] ∧ σ1 = [] ∧ True
set_option maxRecDepth 100000 in
theorem known04_x (t : Int) : CallsN Tryz.prog 173 [vI t] [] OneB := by
  (refine callsN_of_W (Ty := Ty) ty_ok Tryz.func173 rfl rfl rfl (by rfl) fun w0 S0 hp => ?_; simp only [argsF, List.zipIdx_cons, List.zipIdx_nil, List.map_cons, List.map_nil, Nat.zero_add])
  repeat' (first | refine W_seq ?_ | refine W_region ?_ | ((first | refine RL_nil ?_ | refine W_ret ?_); (first | change W _ _ _ _ _ | change EndN _ _ _ _ _ _ )) | (refine isRL ?_; first | refine uMv ?_ | refine uAs ?_ | refine uO ?_ | (refine isBin ?_; first | refine uP ?_) | refine uP ?_ | ((first | refine uGsD ?_ ?_ ) <;> intro hb)))
  all_goals exact end_x (by rfl) rfl (by (repeat (first | exact gHas_nil _ ))) ⟨_, rfl, rfl, trivial⟩
set_option maxRecDepth 100000 in
theorem not04_x (t : Int) : CallsN Tryz.prog 146 [vI t] [] OneI := by
  have h := known04_x t
  (refine callsN_of_W (Ty := Ty) ty_ok Tryz.func146 rfl rfl rfl (by rfl) fun w0 S0 hp => ?_; simp only [argsF, List.zipIdx_cons, List.zipIdx_nil, List.map_cons, List.map_nil, Nat.zero_add])
  repeat' (first | refine W_seq ?_ | refine W_region ?_ | ((first | refine RL_nil ?_ | refine W_skip ?_ | refine W_ret ?_); (first | change W _ _ _ _ _ | change EndN _ _ _ _ _ _ | change Exists _ )) | (refine isRL ?_; first | refine uNx h (fun i _ => ?_) | refine uMv ?_ | refine uAs ?_ | (refine isBin ?_; first | refine uP ?_) ) | ((first | refine wCs ?_ ?_) <;> intro hb))
  all_goals exact end_x (by rfl) rfl (by (repeat (first | exact gHas_nil _ ))) ⟨_, rfl, rfl, trivial⟩
set_option maxRecDepth 100000 in
theorem of04_x (v : Val) : CallsN Tryz.prog 96 [.dat (encV v)] [] IntI := by
  (refine callsN_of_W (Ty := Ty) ty_ok Tryz.func96 rfl rfl rfl (by rfl) fun w0 S0 hp => ?_; simp only [argsF, List.zipIdx_cons, List.zipIdx_nil, List.map_cons, List.map_nil, Nat.zero_add])
  repeat' (first | refine W_seq ?_ | refine W_region ?_ | ((first | refine RL_nil ?_ | refine W_skip ?_ | refine W_ret ?_); (first | change W _ _ _ _ _ | change EndN _ _ _ _ _ _ | change Exists _ )) | (refine isRL ?_; first | refine uMv ?_ | refine uAs ?_ | refine uO ?_ | (refine isBin ?_; first | refine uBb true ?_ | refine uBb false ?_ | refine uP ?_) | (refine isLd ?_; first | refine uL1 ?_ ) | (refine isFa ?_; first | refine uP ?_) | refine uP ?_ | refine uBx ?_ | ((first | refine uGsD ?_ ?_ ) <;> intro hb)) | refine wF fun _ => ?_ | ((first | refine wCsD ?_ ?_ ) <;> intro hb))
  all_goals exact end_x (by rfl) rfl (by (repeat (first | exact gHas_nil _ ))) ⟨(_, _), rfl, rfl, trivial⟩
set_option maxRecDepth 100000 in
theorem all04_x (l : List Int) (dd : Int) : CallsN Tryz.prog 148 [vL (l.map encT), vI dd] [] OneI := by
  have hlm : (l.map encT).length = l.length := List.length_map _
  have h := known04_x
  (refine callsN_of_W (Ty := Ty) ty_ok Tryz.func148 rfl rfl rfl (by rfl) fun w0 S0 hp => ?_; simp only [argsF, List.zipIdx_cons, List.zipIdx_nil, List.map_cons, List.map_nil, Nat.zero_add])
  repeat' (first | refine W_seq ?_ | refine W_region ?_ | ((first | refine RL_nil ?_ ); (first | change W _ _ _ _ _ )) | (refine isRL ?_; first | refine uMv ?_ | refine uAs ?_ | (refine isBin ?_; first | refine uP ?_) ) | refine W_block ?_ )
  refine W_for (α := Nat × Int) (fun x => [(0, vL (l.map encT)), (1, vI dd), (5, vI x.2), (6, vI x.1)]) (fun _ => []) (fun x => x.1 ≤ l.length) (fun x => l.length - x.1) (0, IntKind.i64.wrap (1 - dd)) (Nat.zero_le _) (by (repeat (first | exact sub_nil _ | refine sub_cons (by rfl) ?_))) (by (repeat (first | exact sub_nil _ ))) ?_
  rintro ⟨k, out⟩ hk
  dsimp only at hk ⊢
  refine W_limV (t := 0) (rows := l.map encT) rfl rfl fun hlim => ?_
  rw [hlm] at hlim
  by_cases hlt : k < l.length
  · obtain ⟨q, hq⟩ : ∃ q, l[k]? = some q := ⟨_, List.getElem?_eq_getElem hlt⟩
    repeat' (first | refine W_seq ?_ | refine W_region ?_ | ((first | refine RL_nil ?_ | refine W_skip ?_ | refine W_ret ?_); (first | change W _ _ _ _ _ | change Exists _ )) | (refine isRL ?_; first | refine uNx (h q) (fun i _ => ?_) | refine uMv ?_ | refine uAs ?_ | (refine isBin ?_; first | refine uIb ?_ | refine uBb true ?_ | refine uP ?_) | (refine isLd ?_; first | refine uL2 ?_ ) | (refine isCl ?_; first | refine uP ?_) | refine uX ?_ | refine uP ?_) | refine W_block ?_ | refine wT fun _ => ?_ | ((first | refine wCsD ?_ ?_ | refine wCsNB ?_ ?_ ) <;> intro hb))
    all_goals first | exact end_x (by rfl) rfl (by (repeat (first | exact gHas_nil _ ))) ⟨_, rfl, rfl, trivial⟩ | exact ⟨(k + 1, _), by dsimp only; omega, by dsimp only; omega, (by (repeat (first | exact sub_nil _ | refine sub_cons (by rfl) ?_))), (by (repeat (first | exact sub_nil _ )))⟩
  · repeat' (first | refine W_seq ?_ | refine W_region ?_ | ((first | refine RL_nil ?_ | refine W_exit ?_ | refine W_ret ?_); (first | change W _ _ _ _ _ | change EndN _ _ _ _ _ _ )) | (refine isRL ?_; first | refine uMv ?_ | refine uAs ?_ | (refine isBin ?_; first | refine uBb false ?_ ) | (refine isCl ?_; first | refine uP ?_) ) | refine wF fun _ => ?_ )
    exact end_x (by rfl) rfl (by (repeat (first | exact gHas_nil _ ))) ⟨_, rfl, rfl, trivial⟩
set_option maxRecDepth 100000 in
theorem value05_x (t : Int) : CallsN Tryz.prog 145 [vI t] [] OneV := by
  have h := known04_x t
  (refine callsN_of_W (Ty := Ty) ty_ok Tryz.func145 rfl rfl rfl (by rfl) fun w0 S0 hp => ?_; simp only [argsF, List.zipIdx_cons, List.zipIdx_nil, List.map_cons, List.map_nil, Nat.zero_add])
  repeat' (first | refine W_seq ?_ | refine W_region ?_ | ((first | refine RL_nil ?_ | refine W_skip ?_ | refine W_ret ?_); (first | change W _ _ _ _ _ | change EndN _ _ _ _ _ _ | change Exists _ )) | (refine isRL ?_; first | refine uNx h (fun i _ => ?_) | refine uMv ?_ | (refine isBd ?_; first | refine uBd ?_ ) | (refine isSt ?_; first | refine uSw ?_ ) | refine uP ?_ | refine uN ?_) | ((first | refine wCsNB ?_ ?_ ) <;> intro hb))
  all_goals exact end_x (by rfl) rfl (by (repeat (first | exact gHas_nil _ ))) ⟨⟨_, _, _, _⟩, rfl, rfl, trivial⟩
end Go.Proofs.YtjhkehloipmjfaaGreat
