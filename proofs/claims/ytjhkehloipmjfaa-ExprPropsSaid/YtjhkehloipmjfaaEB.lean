/- Walks: numbers against each other. -/
import Derived.Test.YtjhkehloipmjfaaEA
import Derived.Test.YtjhkehloipmjfaaEI
namespace Go.Proofs.Ytjhkehloipmjfaa
open Go.RowKit
abbrev vF (f : Nat) : VV := .one (.d (.v (.float .f64 f)))
def isNum (v : Val) : Bool := decide (v.kind = 2 ∨ v.kind = 3)
def cmpI (a b : Int) : Int := if a < b then -1 else if a > b then 1 else 0
def cmpS (a b : ByteArray) : Int := if Op.bytesLess a.toList b.toList = true then -1 else if (Op.bytesLess a.toList b.toList || a.toList == b.toList) = true then 0 else 1
def nanF (f : Nat) : Bool := !Op.floatEq .f64 f f
def ordF (a b : Nat) : Option Ordering := FloatKind.f64.format.order a b
def cmpF (a b : Nat) : Int := if nanF a = true then (if nanF b = true then 0 else -1) else if nanF b = true then 1 else if (ordF a b == some .lt) = true then -1 else if (ordF a b == some .gt) = true then 1 else 0
set_option maxRecDepth 100000 in
theorem number_v (v : Val) : CallsV Try.prog 112 [.dat (encV v)] (.val (vB (isNum v))) := by
  (refine callsV_of_W (Ty := Ty) ty_ok Try.func112 rfl rfl rfl fun w0 S0 => ?_; simp only [argsF, List.zipIdx_cons, List.zipIdx_nil, List.map_cons, List.map_nil, Nat.zero_add])
  repeat' (first | refine W_seq ?_ | refine W_region ?_ | (refine RL_nil ?_; (first | change W _ _ _ _ _ | change EndQ _ _ _ _ _ _ | change Exists _ | change EndG _ _ _ _ _ _ _ _ _ _ | change EndM _ _ _ _ _ _ _ | skip)) | (refine isRL ?_; first | refine uMv ?_ | refine uAs ?_ | refine uO ?_ | (refine isBin ?_; first | refine uBb true ?_ | refine uBb false ?_ | refine uP ?_ | refine uEq true ?_ | refine uEq false ?_) | (refine isLd ?_; first | refine uLp ?_ | refine uLb ?_ | refine uL1 ?_ | refine uL2 ?_ | refine uP ?_) | (refine isFa ?_; first | refine uP ?_) | refine uP ?_ | refine uBx ?_ | refine uN ?_ | refine uGsD (fun hb => ?_) (fun hb => ?_) | refine uGsE (fun hb => ?_) (fun hb => ?_) | refine uGsN (fun hb => ?_) (fun hb => ?_) | refine uGsND (fun hb => ?_) (fun hb => ?_) | refine uGsNE (fun hb => ?_) (fun hb => ?_) | refine uGsNB (fun hb => ?_) (fun hb => ?_) | refine uGs (fun hb => ?_) (fun hb => ?_)) | (refine W_skip ?_; (first | change W _ _ _ _ _ | change EndQ _ _ _ _ _ _ | change Exists _ | change EndG _ _ _ _ _ _ _ _ _ _ | change EndM _ _ _ _ _ _ _ | skip)) | (refine W_ret ?_; (first | change W _ _ _ _ _ | change EndQ _ _ _ _ _ _ | change Exists _ | change EndG _ _ _ _ _ _ _ _ _ _ | change EndM _ _ _ _ _ _ _ | skip)))
  all_goals exact end_r (by rfl) (vB_eq (by unfold isNum; first | (simp [*]; done) | (simp [*]; rfl)))
set_option maxRecDepth 100000 in
theorem nanI_v (a : Int) : CallsV Try.prog 153 [vI a] (.val (vB false)) := by
  have h : (a != a) = false := by simp
  (refine callsV_of_W (Ty := Ty) ty_ok Try.func153 rfl rfl rfl fun w0 S0 => ?_; simp only [argsF, List.zipIdx_cons, List.zipIdx_nil, List.map_cons, List.map_nil, Nat.zero_add])
  repeat (first | refine W_seq ?_ | refine W_region ?_ | (refine RL_nil ?_; (first | change W _ _ _ _ _ | change EndQ _ _ _ _ _ _ | change Exists _ | change EndG _ _ _ _ _ _ _ _ _ _ | change EndM _ _ _ _ _ _ _ | skip)) | (refine isRL ?_; first | refine uMv ?_ | refine uAs ?_ | (refine isBin ?_; first | refine uBb true ?_ | refine uBb false ?_ | refine uP ?_ | refine uEq true ?_ | refine uEq false ?_) | refine uP ?_) | (refine W_skip ?_; (first | change W _ _ _ _ _ | change EndQ _ _ _ _ _ _ | change Exists _ | change EndG _ _ _ _ _ _ _ _ _ _ | change EndM _ _ _ _ _ _ _ | skip)) | (refine W_ret ?_; (first | change W _ _ _ _ _ | change EndQ _ _ _ _ _ _ | change Exists _ | change EndG _ _ _ _ _ _ _ _ _ _ | change EndM _ _ _ _ _ _ _ | skip)))
  exact end_r (by rfl) rfl
set_option maxRecDepth 100000 in
theorem nanS_v (a : ByteArray) : CallsV Try.prog 150 [vS a] (.val (vB false)) := by
  have h : (!(a.toList == a.toList)) = false := by simp
  (refine callsV_of_W (Ty := Ty) ty_ok Try.func150 rfl rfl rfl fun w0 S0 => ?_; simp only [argsF, List.zipIdx_cons, List.zipIdx_nil, List.map_cons, List.map_nil, Nat.zero_add])
  repeat (first | refine W_seq ?_ | refine W_region ?_ | (refine RL_nil ?_; (first | change W _ _ _ _ _ | change EndQ _ _ _ _ _ _ | change Exists _ | change EndG _ _ _ _ _ _ _ _ _ _ | change EndM _ _ _ _ _ _ _ | skip)) | (refine isRL ?_; first | refine uMv ?_ | refine uAs ?_ | (refine isBin ?_; first | refine uBb true ?_ | refine uBb false ?_ | refine uP ?_ | refine uEq true ?_ | refine uEq false ?_) | refine uP ?_) | (refine W_skip ?_; (first | change W _ _ _ _ _ | change EndQ _ _ _ _ _ _ | change Exists _ | change EndG _ _ _ _ _ _ _ _ _ _ | change EndM _ _ _ _ _ _ _ | skip)) | (refine W_ret ?_; (first | change W _ _ _ _ _ | change EndQ _ _ _ _ _ _ | change Exists _ | change EndG _ _ _ _ _ _ _ _ _ _ | change EndM _ _ _ _ _ _ _ | skip)))
  exact end_r (by rfl) rfl
set_option maxRecDepth 100000 in
theorem nanF_v (a : Nat) : CallsV Try.prog 152 [vF a] (.val (vB (nanF a))) := by
  (refine callsV_of_W (Ty := Ty) ty_ok Try.func152 rfl rfl rfl fun w0 S0 => ?_; simp only [argsF, List.zipIdx_cons, List.zipIdx_nil, List.map_cons, List.map_nil, Nat.zero_add])
  repeat (first | refine W_seq ?_ | refine W_region ?_ | (refine RL_nil ?_; (first | change W _ _ _ _ _ | change EndQ _ _ _ _ _ _ | change Exists _ | change EndG _ _ _ _ _ _ _ _ _ _ | change EndM _ _ _ _ _ _ _ | skip)) | (refine isRL ?_; first | refine uMv ?_ | refine uAs ?_ | (refine isBin ?_; first | refine uBb true ?_ | refine uBb false ?_ | refine uP ?_ | refine uEq true ?_ | refine uEq false ?_) | refine uP ?_) | (refine W_skip ?_; (first | change W _ _ _ _ _ | change EndQ _ _ _ _ _ _ | change Exists _ | change EndG _ _ _ _ _ _ _ _ _ _ | change EndM _ _ _ _ _ _ _ | skip)) | (refine W_ret ?_; (first | change W _ _ _ _ _ | change EndQ _ _ _ _ _ _ | change Exists _ | change EndG _ _ _ _ _ _ _ _ _ _ | change EndM _ _ _ _ _ _ _ | skip)))
  exact end_r (by rfl) rfl
set_option maxRecDepth 100000 in
theorem cmpI_v (a b : Int) : CallsV Try.prog 142 [vI a, vI b] (.val (vI (cmpI a b))) := by
  (refine callsV_of_W (Ty := Ty) ty_ok Try.func142 rfl rfl rfl fun w0 S0 => ?_; simp only [argsF, List.zipIdx_cons, List.zipIdx_nil, List.map_cons, List.map_nil, Nat.zero_add])
  repeat' (first | refine W_seq ?_ | refine W_region ?_ | (refine RL_nil ?_; (first | change W _ _ _ _ _ | change EndQ _ _ _ _ _ _ | change Exists _ | change EndG _ _ _ _ _ _ _ _ _ _ | change EndM _ _ _ _ _ _ _ | skip)) | (refine isRL ?_; first | refine uMv ?_ | refine uAs ?_ | (refine isBin ?_; first | refine uBb true ?_ | refine uBb false ?_ | refine uP ?_ | refine uEq true ?_ | refine uEq false ?_) | (refine isCl ?_; first | refine uC (nanI_v _) ?_ | refine uP ?_) | refine uP ?_) | refine W_cond true (by rfl) (fun _ => ?_) (fun h => by cases h) | refine W_cond false (by rfl) (fun h => by cases h) (fun _ => ?_) | (refine W_skip ?_; (first | change W _ _ _ _ _ | change EndQ _ _ _ _ _ _ | change Exists _ | change EndG _ _ _ _ _ _ _ _ _ _ | change EndM _ _ _ _ _ _ _ | skip)) | (refine W_ret ?_; (first | change W _ _ _ _ _ | change EndQ _ _ _ _ _ _ | change Exists _ | change EndG _ _ _ _ _ _ _ _ _ _ | change EndM _ _ _ _ _ _ _ | skip)) | refine wCsD (fun hb => ?_) (fun hb => ?_) | refine wCsE (fun hb => ?_) (fun hb => ?_) | refine wCsN (fun hb => ?_) (fun hb => ?_) | refine wCsND (fun hb => ?_) (fun hb => ?_) | refine wCsNE (fun hb => ?_) (fun hb => ?_) | refine wCsNB (fun hb => ?_) (fun hb => ?_) | refine wCs (fun hb => ?_) (fun hb => ?_))
  all_goals exact end_r (by rfl) (vI_eq (by unfold cmpI; (repeat' split) <;> omega))
set_option maxRecDepth 100000 in
theorem cmpS_v (a b : ByteArray) : CallsV Try.prog 141 [vS a, vS b] (.val (vI (cmpS a b))) := by
  (refine callsV_of_W (Ty := Ty) ty_ok Try.func141 rfl rfl rfl fun w0 S0 => ?_; simp only [argsF, List.zipIdx_cons, List.zipIdx_nil, List.map_cons, List.map_nil, Nat.zero_add])
  repeat' (first | refine W_seq ?_ | refine W_region ?_ | (refine RL_nil ?_; (first | change W _ _ _ _ _ | change EndQ _ _ _ _ _ _ | change Exists _ | change EndG _ _ _ _ _ _ _ _ _ _ | change EndM _ _ _ _ _ _ _ | skip)) | (refine isRL ?_; first | refine uMv ?_ | refine uAs ?_ | (refine isBin ?_; first | refine uBb true ?_ | refine uBb false ?_ | refine uP ?_ | refine uEq true ?_ | refine uEq false ?_) | (refine isCl ?_; first | refine uC (nanS_v _) ?_ | refine uP ?_) | refine uP ?_) | refine W_cond true (by rfl) (fun _ => ?_) (fun h => by cases h) | refine W_cond false (by rfl) (fun h => by cases h) (fun _ => ?_) | (refine W_skip ?_; (first | change W _ _ _ _ _ | change EndQ _ _ _ _ _ _ | change Exists _ | change EndG _ _ _ _ _ _ _ _ _ _ | change EndM _ _ _ _ _ _ _ | skip)) | (refine W_ret ?_; (first | change W _ _ _ _ _ | change EndQ _ _ _ _ _ _ | change Exists _ | change EndG _ _ _ _ _ _ _ _ _ _ | change EndM _ _ _ _ _ _ _ | skip)) | refine wCsD (fun hb => ?_) (fun hb => ?_) | refine wCsE (fun hb => ?_) (fun hb => ?_) | refine wCsN (fun hb => ?_) (fun hb => ?_) | refine wCsND (fun hb => ?_) (fun hb => ?_) | refine wCsNE (fun hb => ?_) (fun hb => ?_) | refine wCsNB (fun hb => ?_) (fun hb => ?_) | refine wCs (fun hb => ?_) (fun hb => ?_))
  all_goals exact end_r (by rfl) (vI_eq (by unfold cmpS; simp_all))
set_option maxRecDepth 100000 in
theorem cmpF_v (a b : Nat) : CallsV Try.prog 140 [vF a, vF b] (.val (vI (cmpF a b))) := by
  have ha := nanF_v a
  have hb := nanF_v b
  cases h1 : nanF a <;> cases h2 : nanF b <;> rw [h1] at ha <;> rw [h2] at hb
  all_goals
    (refine callsV_of_W (Ty := Ty) ty_ok Try.func140 rfl rfl rfl fun w0 S0 => ?_; simp only [argsF, List.zipIdx_cons, List.zipIdx_nil, List.map_cons, List.map_nil, Nat.zero_add])
    repeat' (first | refine W_seq ?_ | refine W_region ?_ | (refine RL_nil ?_; (first | change W _ _ _ _ _ | change EndQ _ _ _ _ _ _ | change Exists _ | change EndG _ _ _ _ _ _ _ _ _ _ | change EndM _ _ _ _ _ _ _ | skip)) | (refine isRL ?_; first | refine uMv ?_ | refine uAs ?_ | (refine isBin ?_; first | refine uBb true ?_ | refine uBb false ?_ | refine uP ?_ | refine uEq true ?_ | refine uEq false ?_) | (refine isCl ?_; first | refine uC (ha) ?_ | refine uC (hb) ?_ | refine uP ?_) | refine uP ?_) | refine W_cond true (by rfl) (fun _ => ?_) (fun h => by cases h) | refine W_cond false (by rfl) (fun h => by cases h) (fun _ => ?_) | (refine W_skip ?_; (first | change W _ _ _ _ _ | change EndQ _ _ _ _ _ _ | change Exists _ | change EndG _ _ _ _ _ _ _ _ _ _ | change EndM _ _ _ _ _ _ _ | skip)) | (refine W_ret ?_; (first | change W _ _ _ _ _ | change EndQ _ _ _ _ _ _ | change Exists _ | change EndG _ _ _ _ _ _ _ _ _ _ | change EndM _ _ _ _ _ _ _ | skip)) | refine wCsD (fun hb => ?_) (fun hb => ?_) | refine wCsE (fun hb => ?_) (fun hb => ?_) | refine wCsN (fun hb => ?_) (fun hb => ?_) | refine wCsND (fun hb => ?_) (fun hb => ?_) | refine wCsNE (fun hb => ?_) (fun hb => ?_) | refine wCsNB (fun hb => ?_) (fun hb => ?_) | refine wCs (fun hb => ?_) (fun hb => ?_))
    all_goals exact end_r (by rfl) (vI_eq (by unfold cmpF ordF; simp_all))
def two63 : Nat := 4890909195324358656
def neg63 : Nat := 14114281232179134464
def floorF (f : Nat) : Nat := Ieee.double.write ((Ieee.double.read f).integral .down)
def toI64 (f : Nat) : Int := (floatToIntVal .f64 f .i64).getD 0
theorem nan_not {f : Nat} (h : nanF f = false) : ∀ s t, Ieee.double.read f ≠ .nan s t := fun s t e => by
  unfold nanF Op.floatEq at h
  have : FloatKind.f64.format.order f f = none := by
    show (Ieee.double.read f).order (Ieee.double.read f) = none
    rw [e]; rfl
  rw [this] at h
  cases h
theorem floor_x {f : Nat} (h : nanF f = false) : ExtV Try.prog 162 [vF f] (vF (floorF f)) :=
  ⟨fun S w vs ha => by
    obtain ⟨v, rfl, h1⟩ := args1 ha
    rw [pv_v h1]
    refine ⟨.float .f64 (floorF f), ?_, fun _ _ => .one (.v _ rfl)⟩
    have e : (callFunc 162 #[.float .f64 f]).run Try.prog w = ((do
        let v ← (match Ieee.double.read f with
          | .nan s t => if Ieee.double.quiet t = t then pure (Value.float .f64 f) else do
            let kept ← choose (.extern "math.Floor,Ceil,Trunc,RoundToEven.signallingNaN kept" 2)
            pure (Value.float .f64 (if kept == 1 then f else FloatKind.f64.encode (.nan s (Ieee.double.quiet t))))
          | d => pure (Value.float .f64 (FloatKind.f64.encode (d.integral .down))))
        pure (Next.value v)) : Sem Next).run Try.prog w := by kernel_rfl
    show (callFunc 162 #[.float .f64 f]).run Try.prog w = _
    rw [e]
    have hn := nan_not h
    unfold floorF
    cases hr : Ieee.double.read f with
    | nan s t => exact absurd hr (hn s t)
    | infinity s => rfl
    | number s m i => rfl⟩
set_option maxRecDepth 100000 in
theorem floor_v {f : Nat} (h : nanF f = false) : CallsV Try.prog 151 [vF f] (.val (vF (floorF f))) := by
  have hx := floor_x h
  (refine callsV_of_W (Ty := Ty) ty_ok Try.func151 rfl rfl rfl fun w0 S0 => ?_; simp only [argsF, List.zipIdx_cons, List.zipIdx_nil, List.map_cons, List.map_nil, Nat.zero_add])
  repeat (first | refine W_seq ?_ | refine W_region ?_ | (refine RL_nil ?_; (first | change W _ _ _ _ _ | change EndQ _ _ _ _ _ _ | change Exists _ | change EndG _ _ _ _ _ _ _ _ _ _ | change EndM _ _ _ _ _ _ _ | skip)) | (refine isRL ?_; first | refine uMv ?_ | refine uAs ?_ | (refine isCl ?_; first | refine uE (hx) ?_ | refine uP ?_) | refine uP ?_) | refine W_cond true (by rfl) (fun _ => ?_) (fun h => by cases h) | refine W_cond false (by rfl) (fun h => by cases h) (fun _ => ?_) | (refine W_skip ?_; (first | change W _ _ _ _ _ | change EndQ _ _ _ _ _ _ | change Exists _ | change EndG _ _ _ _ _ _ _ _ _ _ | change EndM _ _ _ _ _ _ _ | skip)) | (refine W_ret ?_; (first | change W _ _ _ _ _ | change EndQ _ _ _ _ _ _ | change Exists _ | change EndG _ _ _ _ _ _ _ _ _ _ | change EndM _ _ _ _ _ _ _ | skip)))
  exact end_r (by rfl) rfl
/-- a float made a whole number -/
theorem uFI {nt : Nat} {w0 : W0} {S0 : Nat → Nat → Prop} {fr : Fr} {σ : Obs} {ops : Array Oper} {o : Oper} {rest : List Oper} {Q : Fr → Obs → Prop} {d f : Nat} {x : Operand} {n : Int} (hn : floatToIntVal .f64 f .i64 = some n) (h : RL (cx nt w0 S0) ops rest ((d, vI n) :: fr) σ Q) (ho : o.op = .convert 22 2 x := by rfl) (hx : ev fr x = some (vF f) := by rfl)
    (hw : wantA ops o fr = some true := by rfl) (hdst : o.dst = some d := by rfl) (hd : Nat.blt d nt = true := by rfl) : RL (cx nt w0 S0) ops (o :: rest) fr σ Q :=
  uRaw (fun γ T S w a hr => by
    have e1 := val_sound (ev_sound hr hx)
    refine ⟨.int .i64 n, w, S, ?_, grows_refl S w, fun _ _ => .one (.v _ rfl)⟩
    simp only [execOp, ho, e1, Sem.run_bind, run_convert_float_int w _ _ .f64 .i64 f n (by rw [Try.underlying22]; rfl) Try.underlying2 hn, Result.andThen_ok, Sem.run_pure]) h hw hdst hd
def agN (n : Int) (f : Nat) : Int × Bool :=
  if nanF f = true then (0, false)
  else if (ordF f two63 == some .gt || ordF f two63 == some .eq) = true then (-1, true)
  else if (ordF f neg63 == some .lt) = true then (1, true)
  else if cmpI n (toI64 (floorF f)) ≠ 0 ∨ Op.floatEq .f64 (floorF f) f = true then (cmpI n (toI64 (floorF f)), true)
  else (-1, true)
set_option maxRecDepth 100000 in
theorem agN_v (n : Int) (f : Nat) : CallsV Try.prog 139 [vI n, vF f] (.val (.tup [vI (agN n f).1, vB (agN n f).2])) := by
  cases h1 : nanF f with
  | true =>
    have h1' : (!Op.floatEq .f64 f f) = true := h1
    have hd : agN n f = (0, false) := by unfold agN; rw [if_pos h1]
    rw [hd]
    (refine callsV_of_W (Ty := Ty) ty_ok Try.func139 rfl rfl rfl fun w0 S0 => ?_; simp only [argsF, List.zipIdx_cons, List.zipIdx_nil, List.map_cons, List.map_nil, Nat.zero_add])
    repeat (first | refine W_seq ?_ | refine W_region ?_ | (refine RL_nil ?_; (first | change W _ _ _ _ _ | change EndQ _ _ _ _ _ _ | change Exists _ | change EndG _ _ _ _ _ _ _ _ _ _ | change EndM _ _ _ _ _ _ _ | skip)) | (refine isRL ?_; first | refine uMv ?_ | refine uAs ?_ | refine uO ?_ | (refine isBin ?_; first | refine uBb true ?_ | refine uBb false ?_ | refine uP ?_ | refine uEq true ?_ | refine uEq false ?_) | (refine isCl ?_; first | refine uP ?_) | refine uP ?_) | refine W_block ?_ | refine W_cond true (by rfl) (fun _ => ?_) (fun h => by cases h) | refine W_cond false (by rfl) (fun h => by cases h) (fun _ => ?_) | (refine W_skip ?_; (first | change W _ _ _ _ _ | change EndQ _ _ _ _ _ _ | change Exists _ | change EndG _ _ _ _ _ _ _ _ _ _ | change EndM _ _ _ _ _ _ _ | skip)) | (refine W_ret ?_; (first | change W _ _ _ _ _ | change EndQ _ _ _ _ _ _ | change Exists _ | change EndG _ _ _ _ _ _ _ _ _ _ | change EndM _ _ _ _ _ _ _ | skip)))
    exact end_r (by rfl) rfl
  | false =>
    have h1' : (!Op.floatEq .f64 f f) = false := h1
    cases h2 : (ordF f two63 == some .gt || ordF f two63 == some .eq) with
    | true =>
      have h2' : (FloatKind.f64.format.order f 4890909195324358656 == some .gt || FloatKind.f64.format.order f 4890909195324358656 == some .eq) = true := h2
      have hd : agN n f = (-1, true) := by unfold agN; rw [if_neg (by rw [h1]; decide), if_pos h2]
      rw [hd]
      (refine callsV_of_W (Ty := Ty) ty_ok Try.func139 rfl rfl rfl fun w0 S0 => ?_; simp only [argsF, List.zipIdx_cons, List.zipIdx_nil, List.map_cons, List.map_nil, Nat.zero_add])
      repeat (first | refine W_seq ?_ | refine W_region ?_ | (refine RL_nil ?_; (first | change W _ _ _ _ _ | change EndQ _ _ _ _ _ _ | change Exists _ | change EndG _ _ _ _ _ _ _ _ _ _ | change EndM _ _ _ _ _ _ _ | skip)) | (refine isRL ?_; first | refine uMv ?_ | refine uAs ?_ | refine uO ?_ | (refine isBin ?_; first | refine uBb true ?_ | refine uBb false ?_ | refine uP ?_ | refine uEq true ?_ | refine uEq false ?_) | (refine isCl ?_; first | refine uP ?_) | refine uP ?_) | refine W_block ?_ | refine W_cond true (by rfl) (fun _ => ?_) (fun h => by cases h) | refine W_cond false (by rfl) (fun h => by cases h) (fun _ => ?_) | (refine W_skip ?_; (first | change W _ _ _ _ _ | change EndQ _ _ _ _ _ _ | change Exists _ | change EndG _ _ _ _ _ _ _ _ _ _ | change EndM _ _ _ _ _ _ _ | skip)) | (refine W_ret ?_; (first | change W _ _ _ _ _ | change EndQ _ _ _ _ _ _ | change Exists _ | change EndG _ _ _ _ _ _ _ _ _ _ | change EndM _ _ _ _ _ _ _ | skip)))
      exact end_r (by rfl) rfl
    | false =>
      have h2' : (FloatKind.f64.format.order f 4890909195324358656 == some .gt || FloatKind.f64.format.order f 4890909195324358656 == some .eq) = false := h2
      cases h3 : (ordF f neg63 == some .lt) with
      | true =>
        have h3' : (FloatKind.f64.format.order f 14114281232179134464 == some .lt) = true := h3
        have hd : agN n f = (1, true) := by unfold agN; rw [if_neg (by rw [h1]; decide), if_neg (by rw [h2]; decide), if_pos h3]
        rw [hd]
        (refine callsV_of_W (Ty := Ty) ty_ok Try.func139 rfl rfl rfl fun w0 S0 => ?_; simp only [argsF, List.zipIdx_cons, List.zipIdx_nil, List.map_cons, List.map_nil, Nat.zero_add])
        repeat (first | refine W_seq ?_ | refine W_region ?_ | (refine RL_nil ?_; (first | change W _ _ _ _ _ | change EndQ _ _ _ _ _ _ | change Exists _ | change EndG _ _ _ _ _ _ _ _ _ _ | change EndM _ _ _ _ _ _ _ | skip)) | (refine isRL ?_; first | refine uMv ?_ | refine uAs ?_ | refine uO ?_ | (refine isBin ?_; first | refine uBb true ?_ | refine uBb false ?_ | refine uP ?_ | refine uEq true ?_ | refine uEq false ?_) | (refine isCl ?_; first | refine uP ?_) | refine uP ?_) | refine W_block ?_ | refine W_cond true (by rfl) (fun _ => ?_) (fun h => by cases h) | refine W_cond false (by rfl) (fun h => by cases h) (fun _ => ?_) | (refine W_skip ?_; (first | change W _ _ _ _ _ | change EndQ _ _ _ _ _ _ | change Exists _ | change EndG _ _ _ _ _ _ _ _ _ _ | change EndM _ _ _ _ _ _ _ | skip)) | (refine W_ret ?_; (first | change W _ _ _ _ _ | change EndQ _ _ _ _ _ _ | change Exists _ | change EndG _ _ _ _ _ _ _ _ _ _ | change EndM _ _ _ _ _ _ _ | skip)))
        exact end_r (by rfl) rfl
      | false =>
        have h3' : (FloatKind.f64.format.order f 14114281232179134464 == some .lt) = false := h3
        have hF := floor_v h1
        obtain ⟨m, hm⟩ : ∃ m, floatToIntVal .f64 (floorF f) .i64 = some m := by
          rw [Bool.or_eq_false_iff] at h2
          have q1 : FloatKind.f64.format.order f f = some .eq := by
            unfold nanF Op.floatEq at h1
            simpa using h1
          have q2 : FloatKind.f64.format.order f two63 ≠ some .gt := by simpa [ordF] using h2.1
          have q3 : FloatKind.f64.format.order f two63 ≠ some .eq := by simpa [ordF] using h2.2
          have q4 : FloatKind.f64.format.order f neg63 ≠ some .lt := by simpa [ordF] using h3
          obtain ⟨m, b1, b2, b3⟩ := floor_fits f q1 q2 q3 q4
          refine ⟨m, ?_⟩
          unfold floatToIntVal
          have e : (FloatKind.f64.decode (floorF f)).toInt .zero = some m := b3
          rw [e]
          exact if_pos ⟨b1, b2⟩
        have hI : toI64 (floorF f) = m := by unfold toI64; rw [hm]; rfl
        have hC := cmpI_v n m
        have hd : agN n f = if cmpI n m ≠ 0 ∨ Op.floatEq .f64 (floorF f) f = true then (cmpI n m, true) else (-1, true) := by
          unfold agN; rw [if_neg (by rw [h1]; decide), if_neg (by rw [h2]; decide), if_neg (by rw [h3]; decide), hI]
        rw [hd]
        (refine callsV_of_W (Ty := Ty) ty_ok Try.func139 rfl rfl rfl fun w0 S0 => ?_; simp only [argsF, List.zipIdx_cons, List.zipIdx_nil, List.map_cons, List.map_nil, Nat.zero_add])
        repeat' (first | refine W_seq ?_ | refine W_region ?_ | (refine RL_nil ?_; (first | change W _ _ _ _ _ | change EndQ _ _ _ _ _ _ | change Exists _ | change EndG _ _ _ _ _ _ _ _ _ _ | change EndM _ _ _ _ _ _ _ | skip)) | (refine isRL ?_; first | refine uFI hm ?_ | refine uMv ?_ | refine uAs ?_ | refine uO ?_ | (refine isBin ?_; first | refine uBb true ?_ | refine uBb false ?_ | refine uP ?_ | refine uEq true ?_ | refine uEq false ?_) | (refine isCl ?_; first | refine uC (hF) ?_ | refine uC (hC) ?_ | refine uP ?_) | refine uP ?_ | refine uGsD (fun hb => ?_) (fun hb => ?_) | refine uGsE (fun hb => ?_) (fun hb => ?_) | refine uGsN (fun hb => ?_) (fun hb => ?_) | refine uGsND (fun hb => ?_) (fun hb => ?_) | refine uGsNE (fun hb => ?_) (fun hb => ?_) | refine uGsNB (fun hb => ?_) (fun hb => ?_) | refine uGs (fun hb => ?_) (fun hb => ?_)) | refine W_block ?_ | refine W_cond true (by rfl) (fun _ => ?_) (fun h => by cases h) | refine W_cond false (by rfl) (fun h => by cases h) (fun _ => ?_) | (refine W_skip ?_; (first | change W _ _ _ _ _ | change EndQ _ _ _ _ _ _ | change Exists _ | change EndG _ _ _ _ _ _ _ _ _ _ | change EndM _ _ _ _ _ _ _ | skip)) | (refine W_ret ?_; (first | change W _ _ _ _ _ | change EndQ _ _ _ _ _ _ | change Exists _ | change EndG _ _ _ _ _ _ _ _ _ _ | change EndM _ _ _ _ _ _ _ | skip)) | refine wCsD (fun hb => ?_) (fun hb => ?_) | refine wCsE (fun hb => ?_) (fun hb => ?_) | refine wCsN (fun hb => ?_) (fun hb => ?_) | refine wCsND (fun hb => ?_) (fun hb => ?_) | refine wCsNE (fun hb => ?_) (fun hb => ?_) | refine wCsNB (fun hb => ?_) (fun hb => ?_) | refine wCs (fun hb => ?_) (fun hb => ?_))
        all_goals exact end_r (by rfl) (tupIB (by simp [*]) (by simp [*]))
def agV (a b : Val) : Int × Bool :=
  if a.kind = 2 ∧ b.kind = 3 then agN a.n b.f
  else if a.kind = 3 ∧ b.kind = 2 then (IntKind.i64.wrap (0 - (agN b.n a.f).1), (agN b.n a.f).2)
  else if a.kind = 3 then (cmpF a.f b.f, Op.floatEq .f64 a.f a.f && Op.floatEq .f64 b.f b.f)
  else if a.kind = 4 then (cmpS a.s b.s, true)
  else (cmpI a.n b.n, true)
set_option maxRecDepth 100000 in
theorem against_v (a b : Val) : CallsV Try.prog 117 [.dat (encV a), .dat (encV b)] (.val (.tup [vI (agV a b).1, vB (agV a b).2])) := by
  cases hA : Op.floatEq .f64 a.f a.f <;> cases hB : Op.floatEq .f64 b.f b.f
  all_goals
    (refine callsV_of_W (Ty := Ty) ty_ok Try.func117 rfl rfl rfl fun w0 S0 => ?_; simp only [argsF, List.zipIdx_cons, List.zipIdx_nil, List.map_cons, List.map_nil, Nat.zero_add])
    repeat' (first | refine W_seq ?_ | refine W_region ?_ | (refine RL_nil ?_; (first | change W _ _ _ _ _ | change EndQ _ _ _ _ _ _ | change Exists _ | change EndG _ _ _ _ _ _ _ _ _ _ | change EndM _ _ _ _ _ _ _ | skip)) | (refine isRL ?_; first | refine uMv ?_ | refine uAs ?_ | refine uO ?_ | (refine isBin ?_; first | refine uBb true ?_ | refine uBb false ?_ | refine uP ?_ | refine uEq true ?_ | refine uEq false ?_) | (refine isLd ?_; first | refine uLp ?_ | refine uLb ?_ | refine uL1 ?_ | refine uL2 ?_ | refine uP ?_) | (refine isCl ?_; first | refine uC (agN_v _ _) ?_ | refine uC (cmpF_v _ _) ?_ | refine uC (cmpS_v _ _) ?_ | refine uC (cmpI_v _ _) ?_ | refine uP ?_) | (refine isFa ?_; first | refine uP ?_) | refine uBu true ?_ | refine uBu false ?_ | refine uP ?_ | refine uBx ?_ | refine uN ?_ | refine uGsD (fun hb => ?_) (fun hb => ?_) | refine uGsE (fun hb => ?_) (fun hb => ?_) | refine uGsN (fun hb => ?_) (fun hb => ?_) | refine uGsND (fun hb => ?_) (fun hb => ?_) | refine uGsNE (fun hb => ?_) (fun hb => ?_) | refine uGsNB (fun hb => ?_) (fun hb => ?_) | refine uGs (fun hb => ?_) (fun hb => ?_)) | refine W_block ?_ | refine W_cond true (by rfl) (fun _ => ?_) (fun h => by cases h) | refine W_cond false (by rfl) (fun h => by cases h) (fun _ => ?_) | (refine W_skip ?_; (first | change W _ _ _ _ _ | change EndQ _ _ _ _ _ _ | change Exists _ | change EndG _ _ _ _ _ _ _ _ _ _ | change EndM _ _ _ _ _ _ _ | skip)) | (refine W_ret ?_; (first | change W _ _ _ _ _ | change EndQ _ _ _ _ _ _ | change Exists _ | change EndG _ _ _ _ _ _ _ _ _ _ | change EndM _ _ _ _ _ _ _ | skip)) | refine uAnyL ?_ | refine uAny ?_ | (refine mN ?_; (first | change W _ _ _ _ _ | change EndQ _ _ _ _ _ _ | change Exists _ | change EndG _ _ _ _ _ _ _ _ _ _ | change EndM _ _ _ _ _ _ _ | skip)) | (refine isD ?_; first | refine mMv ?_ | refine mAs ?_ | refine mO ?_ | (refine imBin ?_; first | refine mBb true ?_ | refine mBb false ?_ | refine mP ?_ | refine mEq true ?_ | refine mEq false ?_) | (refine imLd ?_; first | refine mLp ?_ | refine mLb ?_ | refine mL1 ?_ | refine mL2 ?_ | refine mP ?_) | (refine imCl ?_; first | refine mC (agN_v _ _) ?_ | refine mC (cmpF_v _ _) ?_ | refine mC (cmpS_v _ _) ?_ | refine mC (cmpI_v _ _) ?_ | refine mP ?_) | (refine imFa ?_; first | refine mP ?_) | refine mBu true ?_ | refine mBu false ?_ | refine mP ?_ | refine mAl ?_) | refine wCsD (fun hb => ?_) (fun hb => ?_) | refine wCsE (fun hb => ?_) (fun hb => ?_) | refine wCsN (fun hb => ?_) (fun hb => ?_) | refine wCsND (fun hb => ?_) (fun hb => ?_) | refine wCsNE (fun hb => ?_) (fun hb => ?_) | refine wCsNB (fun hb => ?_) (fun hb => ?_) | refine wCs (fun hb => ?_) (fun hb => ?_))
    all_goals exact end_r (by rfl) (tupIB (by simp [agV, *]) (by simp [agV, *]))
end Go.Proofs.Ytjhkehloipmjfaa
