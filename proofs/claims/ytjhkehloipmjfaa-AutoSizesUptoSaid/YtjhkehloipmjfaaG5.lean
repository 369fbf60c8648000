/- Queries as cells. Walks: do the bodies of all quantifiers have a length? -/
import Derived.Test.YtjhkehloipmjfaaWM
import Derived.Test.YtjhkehloipmjfaaVO
import Derived.Test.YtjhkehloipmjfaaVG
namespace Go.Proofs.Ytjhkehloipmjfaa
open Go.RowKit
structure Qy where
  mode : Int
  sel : Int
  k : Int
  pat : Pt
def encQ (q : Qy) : List D := .v (.int .i64 q.mode) :: .v (.int .i64 q.sel) :: .v (.int .i64 q.k) :: encP q.pat
theorem encQ_len (q : Qy) : (encQ q).length = 23 := by unfold encQ; simp [encP_len]
theorem part_pat {i : TyI} (q : Qy) (ha : i.agg = true := by rfl) (hs : i.size = 20 := by rfl) : loadA i (encQ q) 3 = some (.dat (encP q.pat)) := by
  unfold loadA encQ
  rw [if_pos ha, if_neg (fun h => by cases h.1), if_pos (by simp [encP_len, hs]), hs]
  show some (VV.dat ((encP q.pat).take 20)) = _
  rw [List.take_of_length_le (by rw [encP_len]; exact Nat.le_refl _)]
end Go.Proofs.Ytjhkehloipmjfaa
namespace Go.Proofs.Ytjhkehloipmjfaa
open Go.RowKit
section
variable {X : Ctx} {γ : Nat → Nat} {T : Nat → Value} {S : Nat → Nat → Prop} {w : World} {fr : Fr} {σ : Obs} {a : Act} {o : Oper} {ops : Array Oper} {rest : List Oper} {Q : Fr → Obs → Prop} {w0 : W0} {S0 : Nat → Nat → Prop} {nt d : Nat} {xx : Operand}
theorem two_cells {x y : Value} (hr : Rel X γ T S w fr σ a) (hx : ev fr xx = some (.dat [.v x, .v y])) : a.eval xx = .agg #[x, y] := by
  have := ev_sound hr hx
  generalize a.eval xx = u at this
  cases this with
  | dat h =>
    rename_i us
    obtain ⟨hl, hv⟩ := h
    match us, hl with
    | [b1, b2], _ =>
      obtain ⟨u, hu, hru⟩ := hv 0 (.v x) rfl
      obtain ⟨u', hu', hru'⟩ := hv 1 (.v y) rfl
      simp only [List.getElem?_cons_zero, List.getElem?_cons_succ, Option.some.injEq] at hu hu'
      subst hu; subst hu'
      cases hru; cases hru'; rfl
theorem RL_fld {x y : Value} {f : Nat} (hP : X.P = Try.prog) (hw : wantA ops o fr = some true) (hdst : o.dst = some d) (hd : Nat.blt d X.nt = true) (ho : o.op = .field 105 xx f) (hx : ev fr xx = some (.dat [.v x, .v y])) (hx1 : x.oneCell' = true) (hy1 : y.oneCell' = true) (hf : f = 0 ∨ f = 1)
    (h : RL X ops rest ((d, .one (.d (.v (if f = 0 then x else y)))) :: fr) σ Q) : RL X ops (o :: rest) fr σ Q :=
  ⟨fun γ T S w a K hr hk => wpList_step fun K' hK => by
    rw [if_pos (wantA_sound hr hw)]
    have hev := two_cells hr hx
    have hexec : (execOp a.eval o).run X.P w = .ok (.value (if f = 0 then x else y)) w := by
      rw [hP]
      rcases hf with rfl | rfl
      · simp [execOp, ho, hev, Instr.field, run_underlying Try.underlying105, asAgg, part]
      · simp [execOp, ho, hev, Instr.field, run_underlying Try.underlying105, asAgg, part]
    unfold Oper.wp
    rw [hexec]
    refine hK _ _ (h.out γ T S w _ K ?_ hk)
    rw [hdst]
    refine hr.put (dst := some d) hd (.one (.v _ ?_))
    split
    · exact hx1
    · exact hy1⟩
theorem uFld {x y : Value} {f : Nat} (h : RL (cx nt w0 S0) ops rest ((d, .one (.d (.v (if f = 0 then x else y)))) :: fr) σ Q) (ho : o.op = .field 105 xx f := by rfl) (hf : f = 0 ∨ f = 1 := by first | exact .inl rfl | exact .inr rfl) (hw : wantA ops o fr = some true := by rfl) (hdst : o.dst = some d := by rfl) (hd : Nat.blt d nt = true := by rfl) (hx : ev fr xx = some (.dat [.v x, .v y]) := by rfl) (hx1 : x.oneCell' = true := by rfl) (hy1 : y.oneCell' = true := by rfl) : RL (cx nt w0 S0) ops (o :: rest) fr σ Q :=
  RL_fld (X := cx nt w0 S0) rfl hw hdst hd ho hx hx1 hy1 hf h
end
def endB (p : Pt) : Bool := p.kind != 5 || decide (0 < (lenP (p.kids.headD zPt)).low)
def endsP : Pt → Bool := foldP fun p ks => endB p && ks.all id
theorem endsP_eq (p : Pt) : endsP p = (endB p && p.kids.all endsP) := by unfold endsP; rw [foldP_eq, List.all_map]; rfl
set_option maxRecDepth 100000 in
theorem endB_v (p : Pt) (h : rightP p = true) : CallsV Try.prog 81 [.dat (encP p)] (.val (vB (endB p))) := by
  have hlm : (p.kids.map encP).length = p.kids.length := List.length_map _
  have hdef : endB p = (p.kind != 5 || decide (0 < (lenP (p.kids.headD zPt)).low)) := rfl
  (refine callsV_of_W (Ty := Ty) ty_ok Try.func81 rfl rfl rfl fun w0 S0 => ?_; simp only [argsF, List.zipIdx_cons, List.zipIdx_nil, List.map_cons, List.map_nil, Nat.zero_add])
  by_cases k5 : p.kind = 5
  · obtain ⟨⟨k, hk, hkr⟩, _⟩ := right_quant h k5
    have hQ := lengths_v k hkr
    have hk0 : (p.kids.map encP)[Int.toNat 0]? = some (encP k) := by rw [hk]; rfl
    rw [hk] at hdef
    have hdef : endB p = decide (0 < (lenP k).low) := by rw [hdef]; simp [k5]
    by_cases hp : 0 < (lenP k).low
    · repeat (first | refine W_seq ?_ | refine W_region ?_ | (refine RL_nil ?_; (first | change W _ _ _ _ _ | change EndQ _ _ _ _ _ _ | change Exists _ | change EndG _ _ _ _ _ _ _ _ _ _ | change EndM _ _ _ _ _ _ _ | skip)) | (refine isRL ?_; first | refine uMv ?_ | refine uAs ?_ | refine uO ?_ | (refine isBin ?_; first | refine uBb true ?_ | refine uBb false ?_ | refine uP ?_ | refine uEq true ?_ | refine uEq false ?_) | (refine isLd ?_; first | refine uLp ?_ | refine uLb ?_ | refine uL1 ?_ | refine uL2 ?_ | refine uP ?_) | (refine isCl ?_; first | refine uC (hQ) ?_ | refine uP ?_) | (refine isFa ?_; first | refine uP ?_) | refine uX ?_ | refine uP ?_ | refine uBx ?_ | refine uN ?_) | (refine W_skip ?_; (first | change W _ _ _ _ _ | change EndQ _ _ _ _ _ _ | change Exists _ | change EndG _ _ _ _ _ _ _ _ _ _ | change EndM _ _ _ _ _ _ _ | skip)) | (refine W_ret ?_; (first | change W _ _ _ _ _ | change EndQ _ _ _ _ _ _ | change Exists _ | change EndG _ _ _ _ _ _ _ _ _ _ | change EndM _ _ _ _ _ _ _ | skip)))
      refine uFld ?_
      repeat (first | refine W_seq ?_ | refine W_region ?_ | (refine RL_nil ?_; (first | change W _ _ _ _ _ | change EndQ _ _ _ _ _ _ | change Exists _ | change EndG _ _ _ _ _ _ _ _ _ _ | change EndM _ _ _ _ _ _ _ | skip)) | (refine isRL ?_; first | refine uMv ?_ | refine uAs ?_ | refine uO ?_ | (refine isBin ?_; first | refine uBb true ?_ | refine uBb false ?_ | refine uP ?_ | refine uEq true ?_ | refine uEq false ?_) | (refine isLd ?_; first | refine uLp ?_ | refine uLb ?_ | refine uL1 ?_ | refine uL2 ?_ | refine uP ?_) | (refine isCl ?_; first | refine uP ?_) | (refine isFa ?_; first | refine uP ?_) | refine uX ?_ | refine uP ?_ | refine uBx ?_ | refine uN ?_) | (refine W_skip ?_; (first | change W _ _ _ _ _ | change EndQ _ _ _ _ _ _ | change Exists _ | change EndG _ _ _ _ _ _ _ _ _ _ | change EndM _ _ _ _ _ _ _ | skip)) | (refine W_ret ?_; (first | change W _ _ _ _ _ | change EndQ _ _ _ _ _ _ | change Exists _ | change EndG _ _ _ _ _ _ _ _ _ _ | change EndM _ _ _ _ _ _ _ | skip)))
      exact end_r (by rfl) (vB_eq (by rw [hdef]; simp [hp]))
    · repeat (first | refine W_seq ?_ | refine W_region ?_ | (refine RL_nil ?_; (first | change W _ _ _ _ _ | change EndQ _ _ _ _ _ _ | change Exists _ | change EndG _ _ _ _ _ _ _ _ _ _ | change EndM _ _ _ _ _ _ _ | skip)) | (refine isRL ?_; first | refine uMv ?_ | refine uAs ?_ | refine uO ?_ | (refine isBin ?_; first | refine uBb true ?_ | refine uBb false ?_ | refine uP ?_ | refine uEq true ?_ | refine uEq false ?_) | (refine isLd ?_; first | refine uLp ?_ | refine uLb ?_ | refine uL1 ?_ | refine uL2 ?_ | refine uP ?_) | (refine isCl ?_; first | refine uC (hQ) ?_ | refine uP ?_) | (refine isFa ?_; first | refine uP ?_) | refine uX ?_ | refine uP ?_ | refine uBx ?_ | refine uN ?_) | (refine W_skip ?_; (first | change W _ _ _ _ _ | change EndQ _ _ _ _ _ _ | change Exists _ | change EndG _ _ _ _ _ _ _ _ _ _ | change EndM _ _ _ _ _ _ _ | skip)) | (refine W_ret ?_; (first | change W _ _ _ _ _ | change EndQ _ _ _ _ _ _ | change Exists _ | change EndG _ _ _ _ _ _ _ _ _ _ | change EndM _ _ _ _ _ _ _ | skip)))
      refine uFld ?_
      repeat (first | refine W_seq ?_ | refine W_region ?_ | (refine RL_nil ?_; (first | change W _ _ _ _ _ | change EndQ _ _ _ _ _ _ | change Exists _ | change EndG _ _ _ _ _ _ _ _ _ _ | change EndM _ _ _ _ _ _ _ | skip)) | (refine isRL ?_; first | refine uMv ?_ | refine uAs ?_ | refine uO ?_ | (refine isBin ?_; first | refine uBb true ?_ | refine uBb false ?_ | refine uP ?_ | refine uEq true ?_ | refine uEq false ?_) | (refine isLd ?_; first | refine uLp ?_ | refine uLb ?_ | refine uL1 ?_ | refine uL2 ?_ | refine uP ?_) | (refine isCl ?_; first | refine uP ?_) | (refine isFa ?_; first | refine uP ?_) | refine uX ?_ | refine uP ?_ | refine uBx ?_ | refine uN ?_) | (refine W_skip ?_; (first | change W _ _ _ _ _ | change EndQ _ _ _ _ _ _ | change Exists _ | change EndG _ _ _ _ _ _ _ _ _ _ | change EndM _ _ _ _ _ _ _ | skip)) | (refine W_ret ?_; (first | change W _ _ _ _ _ | change EndQ _ _ _ _ _ _ | change Exists _ | change EndG _ _ _ _ _ _ _ _ _ _ | change EndM _ _ _ _ _ _ _ | skip)))
      exact end_r (by rfl) (vB_eq (by rw [hdef]; simp [hp]))
  · repeat (first | refine W_seq ?_ | refine W_region ?_ | (refine RL_nil ?_; (first | change W _ _ _ _ _ | change EndQ _ _ _ _ _ _ | change Exists _ | change EndG _ _ _ _ _ _ _ _ _ _ | change EndM _ _ _ _ _ _ _ | skip)) | (refine isRL ?_; first | refine uMv ?_ | refine uAs ?_ | refine uO ?_ | (refine isBin ?_; first | refine uBb true ?_ | refine uBb false ?_ | refine uP ?_ | refine uEq true ?_ | refine uEq false ?_) | (refine isLd ?_; first | refine uLp ?_ | refine uLb ?_ | refine uL1 ?_ | refine uL2 ?_ | refine uP ?_) | (refine isCl ?_; first | refine uP ?_) | (refine isFa ?_; first | refine uP ?_) | refine uX ?_ | refine uP ?_ | refine uBx ?_ | refine uN ?_) | (refine W_skip ?_; (first | change W _ _ _ _ _ | change EndQ _ _ _ _ _ _ | change Exists _ | change EndG _ _ _ _ _ _ _ _ _ _ | change EndM _ _ _ _ _ _ _ | skip)) | (refine W_ret ?_; (first | change W _ _ _ _ _ | change EndQ _ _ _ _ _ _ | change Exists _ | change EndG _ _ _ _ _ _ _ _ _ _ | change EndM _ _ _ _ _ _ _ | skip)))
    exact end_r (by rfl) (vB_eq (by rw [hdef]; simp [k5]))
set_option maxRecDepth 100000 in
theorem walkE_v : ∀ p : Pt, rightP p = true → CallsV Try.prog 78 [.dat (encP p), .one (.d (.fn 81 []))] (.val (vB (endsP p))) := Pt.ind fun p ih h => by
  have hr := right_kids h
  have hC1 : ∀ k ∈ p.kids, CallsV Try.prog 105 (.dat (encP k) :: [[D.fn 81 []]].map fun q => .one (.d (.pi q))) (.val (vB (!endsP k))) := fun k hk => by
    have hW := ih k hk (hr k hk)
    rw [List.map_singleton]
    (refine callsV_of_W (Ty := Ty) ty_ok Try.func105 rfl rfl rfl fun w0 S0 => ?_; simp only [argsF, List.zipIdx_cons, List.zipIdx_nil, List.map_cons, List.map_nil, Nat.zero_add])
    cases hb : endsP k
    all_goals
      rw [hb] at hW
      repeat (first | refine W_seq ?_ | refine W_region ?_ | (refine RL_nil ?_; (first | change W _ _ _ _ _ | change EndQ _ _ _ _ _ _ | change Exists _ | change EndG _ _ _ _ _ _ _ _ _ _ | change EndM _ _ _ _ _ _ _ | skip)) | (refine isRL ?_; first | refine uAs ?_ | (refine isLd ?_; first | refine uLp ?_ | refine uLb ?_ | refine uL1 ?_ | refine uL2 ?_ | refine uP ?_) | (refine isCl ?_; first | refine uC (hW) ?_ | refine uP ?_) | refine uBu true ?_ | refine uBu false ?_ | refine uP ?_ | refine uBx ?_ | refine uN ?_) | (refine W_skip ?_; (first | change W _ _ _ _ _ | change EndQ _ _ _ _ _ _ | change Exists _ | change EndG _ _ _ _ _ _ _ _ _ _ | change EndM _ _ _ _ _ _ _ | skip)) | (refine W_ret ?_; (first | change W _ _ _ _ _ | change EndQ _ _ _ _ _ _ | change Exists _ | change EndG _ _ _ _ _ _ _ _ _ _ | change EndM _ _ _ _ _ _ _ | skip)))
      exact end_r (by rfl) rfl
  have hC := containsP_v p.kids 105 [[D.fn 81 []]] (fun k => !endsP k) hC1
  rw [any_not endsP] at hC
  have hE := endB_v p h
  have hdef := endsP_eq p
  (refine callsV_of_W (Ty := Ty) ty_ok Try.func78 rfl rfl rfl fun w0 S0 => ?_; simp only [argsF, List.zipIdx_cons, List.zipIdx_nil, List.map_cons, List.map_nil, Nat.zero_add])
  cases hb : endB p with
  | false =>
    rw [hb] at hE
    repeat (first | refine W_seq ?_ | refine W_region ?_ | (refine RL_nil ?_; (first | change W _ _ _ _ _ | change EndQ _ _ _ _ _ _ | change Exists _ | change EndG _ _ _ _ _ _ _ _ _ _ | change EndM _ _ _ _ _ _ _ | skip)) | (refine isRL ?_; first | refine uMv ?_ | refine uAs ?_ | refine uO ?_ | (refine isLd ?_; first | refine uLp ?_ | refine uLb ?_ | refine uL1 ?_ | refine uL2 ?_ | refine uP ?_) | (refine isCl ?_; first | refine uDc (hE) ?_ | refine uP ?_) | (refine isFa ?_; first | refine uP ?_) | refine uBu true ?_ | refine uBu false ?_ | refine uP ?_ | refine uBx ?_ | refine uN ?_) | (refine W_skip ?_; (first | change W _ _ _ _ _ | change EndQ _ _ _ _ _ _ | change Exists _ | change EndG _ _ _ _ _ _ _ _ _ _ | change EndM _ _ _ _ _ _ _ | skip)) | (refine W_ret ?_; (first | change W _ _ _ _ _ | change EndQ _ _ _ _ _ _ | change Exists _ | change EndG _ _ _ _ _ _ _ _ _ _ | change EndM _ _ _ _ _ _ _ | skip)))
    exact end_r (by rfl) (vB_eq (by rw [hdef, hb]; rfl))
  | true =>
    rw [hb] at hE
    rw [hb, Bool.true_and] at hdef
    repeat (first | refine W_seq ?_ | refine W_region ?_ | (refine RL_nil ?_; (first | change W _ _ _ _ _ | change EndQ _ _ _ _ _ _ | change Exists _ | change EndG _ _ _ _ _ _ _ _ _ _ | change EndM _ _ _ _ _ _ _ | skip)) | (refine isRL ?_; first | refine uMv ?_ | refine uAs ?_ | refine uO ?_ | (refine isLd ?_; first | refine uLp ?_ | refine uLb ?_ | refine uL1 ?_ | refine uL2 ?_ | refine uP ?_) | (refine isCl ?_; first | refine uDc (hE) ?_ | refine uP ?_) | (refine isFa ?_; first | refine uP ?_) | refine uBu true ?_ | refine uBu false ?_ | refine uP ?_ | refine uBx ?_ | refine uN ?_) | (refine W_skip ?_; (first | change W _ _ _ _ _ | change EndQ _ _ _ _ _ _ | change Exists _ | change EndG _ _ _ _ _ _ _ _ _ _ | change EndM _ _ _ _ _ _ _ | skip)) | (refine W_ret ?_; (first | change W _ _ _ _ _ | change EndQ _ _ _ _ _ _ | change Exists _ | change EndG _ _ _ _ _ _ _ _ _ _ | change EndM _ _ _ _ _ _ _ | skip)))
    refine uFz [(3, [.fn 81 []])] ?_
    cases ha : p.kids.all endsP
    all_goals
      rw [ha] at hC
      repeat (first | refine W_seq ?_ | refine W_region ?_ | (refine RL_nil ?_; (first | change W _ _ _ _ _ | change EndQ _ _ _ _ _ _ | change Exists _ | change EndG _ _ _ _ _ _ _ _ _ _ | change EndM _ _ _ _ _ _ _ | skip)) | (refine isRL ?_; first | refine uMv ?_ | refine uAs ?_ | refine uO ?_ | (refine isLd ?_; first | refine uLp ?_ | refine uLb ?_ | refine uL1 ?_ | refine uL2 ?_ | refine uP ?_) | (refine isCl ?_; first | refine uC (hC) ?_ | refine uP ?_) | (refine isFa ?_; first | refine uP ?_) | refine uBu true ?_ | refine uBu false ?_ | refine uP ?_ | refine uBx ?_ | refine uN ?_) | (refine W_skip ?_; (first | change W _ _ _ _ _ | change EndQ _ _ _ _ _ _ | change Exists _ | change EndG _ _ _ _ _ _ _ _ _ _ | change EndM _ _ _ _ _ _ _ | skip)) | (refine W_ret ?_; (first | change W _ _ _ _ _ | change EndQ _ _ _ _ _ _ | change Exists _ | change EndG _ _ _ _ _ _ _ _ _ _ | change EndM _ _ _ _ _ _ _ | skip)))
      exact end_r (by rfl) (vB_eq (by rw [hdef, ha]))
set_option maxRecDepth 100000 in
theorem ends_v (p : Pt) (h : rightP p = true) : CallsV Try.prog 52 [.dat (encP p)] (.val (vB (endsP p))) := by
  have hW := walkE_v p h
  (refine callsV_of_W (Ty := Ty) ty_ok Try.func52 rfl rfl rfl fun w0 S0 => ?_; simp only [argsF, List.zipIdx_cons, List.zipIdx_nil, List.map_cons, List.map_nil, Nat.zero_add])
  repeat (first | refine W_seq ?_ | refine W_region ?_ | (refine RL_nil ?_; (first | change W _ _ _ _ _ | change EndQ _ _ _ _ _ _ | change Exists _ | change EndG _ _ _ _ _ _ _ _ _ _ | change EndM _ _ _ _ _ _ _ | skip)) | (refine isRL ?_; first | refine uAs ?_ | (refine isLd ?_; first | refine uLp ?_ | refine uLb ?_ | refine uL1 ?_ | refine uL2 ?_ | refine uP ?_) | (refine isCl ?_; first | refine uC (hW) ?_ | refine uP ?_) | refine uP ?_ | refine uBx ?_ | refine uN ?_) | (refine W_skip ?_; (first | change W _ _ _ _ _ | change EndQ _ _ _ _ _ _ | change Exists _ | change EndG _ _ _ _ _ _ _ _ _ _ | change EndM _ _ _ _ _ _ _ | skip)) | (refine W_ret ?_; (first | change W _ _ _ _ _ | change EndQ _ _ _ _ _ _ | change Exists _ | change EndG _ _ _ _ _ _ _ _ _ _ | change EndM _ _ _ _ _ _ _ | skip)))
  exact end_r (by rfl) rfl
end Go.Proofs.Ytjhkehloipmjfaa
