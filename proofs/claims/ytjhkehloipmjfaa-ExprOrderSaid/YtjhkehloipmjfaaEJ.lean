/- expr.Eval: a value, or what was thrown is taken. -/
import Derived.Test.YtjhkehloipmjfaaEH
import Derived.Test.YtjhkehloipmjfaaMH
namespace Go.Proofs.Ytjhkehloipmjfaa
open Go.RowKit
theorem PStep_call2 {X : Ctx} {fr : Fr} {σ σ0 : Obs} {ops : Array Oper} {o : Oper} {Qp : List PanicEntry → Fr → Obs → Prop} (L : List Nat) {f : FuncId} {x : Operand} {xs : Array Operand} {ats : Array TypeId} {args cs : List VV} {pv : Value} (hw : wantA ops o fr = some true) (ho : o.op = .call { callee := .value x, args := xs, argTypes := ats }) (hx : calleeG fr x = some (f, cs))
    (ha : argsG fr xs.toList = some args) (hc : CallsP X.P f (args ++ cs) σ0 pv) (hσ : ∀ p ∈ σ0, look σ p.1 = some p.2) (hok : okM σ0 [] L = true) (h : Qp (chainP pv) (stripsF L fr) (stripsS L σ)) : PStep X ops o fr σ Qp := by
  intro γ T S w a K QQ hr hq
  refine ⟨wantA_sound hr hw, ?_⟩
  obtain ⟨us, hu1, hu2⟩ := calleeG_sound hr hx
  unfold Oper.wp
  rw [exec_dcall ho hu1, hc.ent]
  refine (hc.out _ γ T S w _ (hr.toM hσ) ((argsG_sound hr ha).app hu2)).mono fun ex w' he => ?_
  obtain ⟨γ', T', S', rfl, hst⟩ := he
  obtain ⟨γ2, T2, hr2, _, _⟩ := hr.backM L hσ hst hok (fun k hk => by cases hk)
  exact hq _ _ _ _ _ _ _ _ hr2 h
section
variable {nt : Nat} {w0 : W0} {S0 : Nat → Nat → Prop} {fr fr2 : Fr} {σ σ2 τ0 : Obs} {ops : Array Oper} {o : Oper} {Qp : List PanicEntry → Fr → Obs → Prop} {xx : Operand}
/-- a call that throws, and what is left behind it -/
theorem uPanS {f : FuncId} {xs : Array Operand} {ats : Array TypeId} {args cs all : List VV} {L : List Nat} {pv : Value} (hc : CallsP Try.prog f all τ0 pv) (h : Qp (chainP pv) fr2 σ2) (ho : o.op = .call { callee := .value xx, args := xs, argTypes := ats } := by rfl) (hx : calleeG fr xx = some (f, cs) := by rfl) (hw : wantA ops o fr = some true := by rfl)
    (ha : argsG fr xs.toList = some args := by rfl) (hall : args ++ cs = all := by rfl) (hσ : gHas σ τ0 := by (repeat (first | exact gHas_nil _ | refine gHas_cons (by rfl) ?_))) (_hL : autoL τ0 [] = L := by first | ((try simp only [autoL, keyIn, pinny, look_cons, look_nil, List.filter_cons, List.filter_nil, Nat.reduceEqDiff, if_true, if_false, reduceIte, Bool.not_true, Bool.not_false, Bool.and_true, Bool.true_and, Bool.and_self, Bool.and_false, Bool.false_and, Option.isSome_some, Option.isSome_none, List.map_cons, List.map_nil, List.nil_append, List.cons_append, List.append_nil, Bool.false_eq_true]) <;> rfl) | rfl) (hok : okM τ0 [] L = true := by rfl) (hf : stripsF L fr = fr2 := by first | ((try simp only [stripsF_cons, stripsF_nil, stripsS_cons, stripsS_nil, putF_some, putF_none, stripF_cons, stripF_nil, stripS_cons, stripS_nil, stripV, plainV, List.all_cons, List.all_nil, Bool.and_self, stripC, stripO, stripA, stripL_nil, stripL_cons, stripL_d, stripL_app, Nat.reduceEqDiff, if_false, if_true, reduceIte, List.contains_nil, List.contains_cons, Nat.reduceBEq, Bool.or_false, Bool.false_eq_true, Bool.or_true]) <;> rfl) | rfl) (hs : stripsS L σ = σ2 := by first | ((try simp only [stripsF_cons, stripsF_nil, stripsS_cons, stripsS_nil, putF_some, putF_none, stripF_cons, stripF_nil, stripS_cons, stripS_nil, stripV, plainV, List.all_cons, List.all_nil, Bool.and_self, stripC, stripO, stripA, stripL_nil, stripL_cons, stripL_d, stripL_app, Nat.reduceEqDiff, if_false, if_true, reduceIte, List.contains_nil, List.contains_cons, Nat.reduceBEq, Bool.or_false, Bool.false_eq_true, Bool.or_true]) <;> rfl) | rfl) : PStep (cx nt w0 S0) ops o fr σ Qp :=
  PStep_call2 (X := cx nt w0 S0) L hw ho hx ha (by rw [hall]; exact hc) hσ.all hok (by rw [hf, hs]; exact h)
end
theorem wp_seq_W {X : Ctx} {c1 c2 : Code} {fr : Fr} {σ : Obs} {Q : Exit → Fr → Obs → Prop} {QQ : Exit → Act → World → Prop} (h1 : W X c1 fr σ Q) {γ : Nat → Nat} {T : Nat → Value} {S : Nat → Nat → Prop} {w : World} {a : Act} (hr : Rel X γ T S w fr σ a)
    (hn : ∀ γ T S w a fr σ, Rel X γ T S w fr σ a → Q .normal fr σ → c2.wp X.P QQ a w) (hx : ∀ e γ T S w a fr σ, e ≠ .normal → Rel X γ T S w fr σ a → Q e fr σ → QQ e a w) : (c1.seq c2).wp X.P QQ a w :=
  wp_seq (Code.wp_mono (fun e a w ⟨γ', T', S', fr', σ', h1, h2⟩ => by
    cases e with
    | normal => exact hn _ _ _ _ _ _ _ h1 h2
    | exit id => exact hx _ _ _ _ _ _ _ _ (by simp) h1 h2
    | goto l => exact hx _ _ _ _ _ _ _ _ (by simp) h1 h2
    | ret => exact hx _ _ _ _ _ _ _ _ (by simp) h1 h2
    | panic ch => exact hx _ _ _ _ _ _ _ _ (by simp) h1 h2
    | outgrown => exact hx _ _ _ _ _ _ _ _ (by simp) h1 h2) (h1.out γ T S w a hr))
def evalR (ps : List Pr) (e : E) : Val × Int :=
  if exprRight e = false then (zeroVal, 1) else match evalE ps e with
    | none => (zeroVal, 4)
    | some r => if r.2 = true then (zeroVal, 7) else (r.1, 0)
def rsE : List ResultVar := [.cell 4 24, .cell 5 32]
abbrev zC : List C := [.d (.v (.int .i64 0)), .d (.v (.int .i64 0)), .d (.v (.float .f64 0)), .d (.v (.string ⟨#[]⟩))]
/-- at the end of the first part -/
def QB (X : Ctx) (ps : List Pr) (e : E) : Exit → Fr → Obs → Prop
  | .normal, fr, σ => exprRight e = true ∧ Sub [(1, vL (ps.map encPr)), (2, .one (.d (.pi (encE e)))), (4, .one (.po 1002 0)), (5, .one (.po 1003 0))] fr ∧ Sub [(1002, .obj 24 zC), (1003, .cell 32 (.d (.v (.int .i64 0))))] σ
  | .ret, fr, σ => exprRight e = false ∧ ∃ y, retVM X fr σ rsE = some y ∧ dataV y = some (.tup [.dat (encV zeroVal), vI 1])
  | _, _, _ => False
/-- at the end of the second -/
def QC (X : Ctx) (v : Val × Int) (t : Bool) : Exit → Fr → Obs → Prop
  | .ret, fr, σ => t = false ∧ ∃ y, retVM X fr σ rsE = some y ∧ dataV y = some (.tup [.dat (encV v.1), vI v.2])
  | .panic ch, fr, σ => t = true ∧ ch = chainP pvWrong ∧ Sub [(4, .one (.po 1002 0)), (5, .one (.po 1003 0))] fr ∧ Sub [(1002, .obj 24 zC), (1003, .cell 32 (.d (.v (.int .i64 0))))] σ
  | _, _, _ => False
def QA (e : E) (ps : List Pr) : Exit → Fr → Obs → Prop
  | .normal, fr, σ => Sub [(1, vL (ps.map encPr)), (2, .one (.po 2 0)), (4, .one (.po 4 0)), (5, .one (.po 5 0))] fr ∧ Sub [(2, .box 27 (encE e)), (4, .box 24 [.v (.int .i64 0), .v (.int .i64 0), .v (.float .f64 0), .v (.string ⟨#[]⟩)]), (5, .cell 32 (.d (.v (.int .i64 0))))] σ
  | _, _, _ => False
def pinE (γ : Nat → Nat) (k : Nat) : Option Nat := if k = 1002 then some (γ 1002) else if k = 1003 then some (γ 1003) else none
theorem pinE_none {γ : Nat → Nat} {k : Nat} (h2 : k ≠ 1002) (h3 : k ≠ 1003) : pinE γ k = none := by unfold pinE; rw [if_neg h2, if_neg h3]
theorem fin_ret {w : World} {pin : Nat → Option Nat} {df : List Deferred} {S S' : Nat → Nat → Prop} {γ : Nat → Nat} {T : Nat → Value} {w' : World} {a' : Act} {fr : Fr} {σ : Obs} {y x : VV} (hr : Rel (cx Try.f15.ntmps ⟨w, fun b => b < w.heap.size, pin, df⟩ S) γ T S' w' fr σ a')
    (h1 : retVM (cx Try.f15.ntmps ⟨w, fun b => b < w.heap.size, pin, df⟩ S) fr σ rsE = some y) (h2 : dataV y = some x) : ∃ v, (results Try.f15 a'.tmps).run Try.prog w' = .ok v w' ∧ ∃ v' S', Ending.returned v = .returned v' ∧ Below w.heap.size w w' ∧ (∀ b o, S b o → S' b o) ∧ (∀ b o, S' b o → S b o ∨ (w.heap.size ≤ b ∧ b < w'.heap.size)) ∧ ResR S' w w' v' (.val x) := by
  obtain ⟨v, g1, g2⟩ := retVM_sound (X := cx Try.f15.ntmps ⟨w, fun b => b < w.heap.size, pin, df⟩ S) (fn := Try.f15) ty_ok hr h1
  exact ⟨v, g1, v, S', rfl, ⟨hr.st.keep.os, hr.st.keep.tape, hr.st.keep.output, hr.st.keep.size, fun k hk => hr.st.keep.block k hk hk⟩, hr.st.mon.1, fun b o hs => (hr.st.set b o hs).imp id fun hnN => ⟨Nat.le_of_not_lt hnN, hr.st.lt b o hs⟩, dataV_sound h2 g2⟩
set_option maxRecDepth 100000 in
theorem Eval_v (ps : List Pr) (e : E) : CallsV Try.prog 15 [.dat (encE e), vL (ps.map encPr)] (.val (.tup [.dat (encV (evalR ps e).1), vI (evalR ps e).2])) := by
  have hent : Enters Try.prog 15 := fun xs w => by kernel_rfl
  have hR := exprRight_v e
  refine ⟨hent, fun S w vs ha lt => calls_of_wp_defers (fn := Try.f15) rfl rfl ?_⟩
  have hlen : vs.length = 2 := ha.1
  have hr : Rel (cx Try.f15.ntmps (.of w) S) (fun _ => 0) (fun _ => undef) S w (argsF [.dat (encE e), vL (ps.map encPr)]) [] { tmps := vs.toArray ++ Array.replicate (Try.f15.ntmps - vs.toArray.size) undef, defers := [] } := by
    refine ⟨⟨.refl _ _, lt, fun b hb => hb, fun b o hs => .inl hs, ⟨fun _ _ hs => hs, fun _ _ _ _ h => h⟩, fun k o ho => by simp [look] at ho, fun k k' o o' ho => by simp [look] at ho⟩, fun t x hx => ?_, ?_, rfl⟩
    · obtain ⟨_, h2⟩ := look_args _ 0 t x hx
      rw [Nat.sub_zero] at h2
      have hlt : t < vs.length := by rw [ha.1]; exact (List.getElem?_eq_some_iff.1 h2).1
      have hv : vs[t]? = some vs[t] := List.getElem?_eq_getElem hlt
      have e : (vs.toArray ++ Array.replicate (Try.f15.ntmps - vs.toArray.size) undef).getD t undef = vs[t] := by
        rw [Array.getD_eq_getD_getElem?, Array.getElem?_append_left (by simpa using hlt)]
        simp [hv]
      rw [e]
      exact ha.2 t x _ h2 hv _ _
    · show (vs.toArray ++ Array.replicate (Try.f15.ntmps - vs.toArray.size) undef).size = Try.f15.ntmps
      simp [hlen]
  simp only [argsF, List.zipIdx_cons, List.zipIdx_nil, List.map_cons, List.map_nil, Nat.zero_add] at hr
  -- the first region
  refine wp_seq_W (Q := QA e ps) (by
    skip
    repeat' (first | refine W_seq ?_ | refine W_region ?_ | (refine RL_nil ?_; (first | change W _ _ _ _ _ | change EndQ _ _ _ _ _ _ | change Exists _ | change EndG _ _ _ _ _ _ _ _ _ _ | change EndM _ _ _ _ _ _ _ | skip)) | (refine isRL ?_; first | refine uMv ?_ | refine uAs ?_ | (refine isLd ?_; first | refine uLp ?_ | refine uLb ?_ | refine uL1 ?_ | refine uL2 ?_ | refine uP ?_) | (refine isCl ?_; first | refine uP ?_) | (refine isFa ?_; first | refine uP ?_) | (refine isBd ?_; first | refine uBd ?_ | refine uP ?_) | (refine isSt ?_; first | refine uSw ?_ | refine uS ?_ | refine uSc ?_ | refine uSo ?_) | refine uBu true ?_ | refine uBu false ?_ | refine uNp ?_ | refine uP ?_ | refine uBx ?_ | refine uN ?_) | refine W_cond true (by rfl) (fun _ => ?_) (fun h => by cases h) | refine W_cond false (by rfl) (fun h => by cases h) (fun _ => ?_) | (refine W_skip ?_; (first | change W _ _ _ _ _ | change EndQ _ _ _ _ _ _ | change Exists _ | change EndG _ _ _ _ _ _ _ _ _ _ | change EndM _ _ _ _ _ _ _ | skip)) | (refine W_ret ?_; (first | change W _ _ _ _ _ | change EndQ _ _ _ _ _ _ | change Exists _ | change EndG _ _ _ _ _ _ _ _ _ _ | change EndM _ _ _ _ _ _ _ | skip)) | refine wCsD (fun hb => ?_) (fun hb => ?_) | refine wCsE (fun hb => ?_) (fun hb => ?_) | refine wCsN (fun hb => ?_) (fun hb => ?_) | refine wCsND (fun hb => ?_) (fun hb => ?_) | refine wCsNE (fun hb => ?_) (fun hb => ?_) | refine wCsNB (fun hb => ?_) (fun hb => ?_) | refine wCs (fun hb => ?_) (fun hb => ?_))
    exact ⟨(by (repeat (first | exact sub_nil _ | refine sub_cons (by rfl) ?_))), (by (repeat (first | exact sub_nil _ | refine sub_cons (by rfl) ?_)))⟩) hr (fun γ1 T1 S1 w1 a1 fr1 σ1 hr1 hq1 => ?_) (fun ex _ _ _ _ _ _ _ hne _ hq => by cases ex <;> first | exact hq.elim | exact absurd rfl hne)
  obtain ⟨hf1, hs1⟩ := hq1
  have hr1 := hr1.sub hf1 hs1
  -- the test
  refine wp_seq_W (Q := QB (cx Try.f15.ntmps (.of w) S) ps e) ?_ hr1 (fun γ2 T2 S2 w2 a2 fr2 σ2 hr2 hq2 => ?_) (fun ex γ2 T2 S2 w2 a2 fr2 σ2 hne hr2 hq => ?_)
  · refine wBO 4 rfl ?_
    refine wRn 4 1002 rfl ?_
    refine wRn 5 1003 rfl ?_
    refine uFzW [(2, encE e)] ?_
    repeat' (first | refine W_seq ?_ | refine W_region ?_ | (refine RL_nil ?_; (first | change W _ _ _ _ _ | change EndQ _ _ _ _ _ _ | change Exists _ | change EndG _ _ _ _ _ _ _ _ _ _ | change EndM _ _ _ _ _ _ _ | skip)) | (refine isRL ?_; first | refine uMv ?_ | refine uAs ?_ | (refine isLd ?_; first | refine uLp ?_ | refine uLb ?_ | refine uL1 ?_ | refine uL2 ?_ | refine uP ?_) | (refine isCl ?_; first | refine uC (hR) ?_ | refine uP ?_) | (refine isFa ?_; first | refine uP ?_) | (refine isBd ?_; first | refine uBd ?_ | refine uP ?_) | (refine isSt ?_; first | refine uSw ?_ | refine uS ?_ | refine uSc ?_ | refine uSo ?_) | refine uBu true ?_ | refine uBu false ?_ | refine uNp ?_ | refine uP ?_ | refine uBx ?_ | refine uN ?_) | refine W_cond true (by rfl) (fun _ => ?_) (fun h => by cases h) | refine W_cond false (by rfl) (fun h => by cases h) (fun _ => ?_) | (refine W_skip ?_; (first | change W _ _ _ _ _ | change EndQ _ _ _ _ _ _ | change Exists _ | change EndG _ _ _ _ _ _ _ _ _ _ | change EndM _ _ _ _ _ _ _ | skip)) | (refine W_ret ?_; (first | change W _ _ _ _ _ | change EndQ _ _ _ _ _ _ | change Exists _ | change EndG _ _ _ _ _ _ _ _ _ _ | change EndM _ _ _ _ _ _ _ | skip)) | refine wCsD (fun hb => ?_) (fun hb => ?_) | refine wCsE (fun hb => ?_) (fun hb => ?_) | refine wCsN (fun hb => ?_) (fun hb => ?_) | refine wCsND (fun hb => ?_) (fun hb => ?_) | refine wCsNE (fun hb => ?_) (fun hb => ?_) | refine wCsNB (fun hb => ?_) (fun hb => ?_) | refine wCs (fun hb => ?_) (fun hb => ?_))
    · rename_i hb
      exact ⟨hb, _, by rfl, by rfl⟩
    · rename_i hb
      exact ⟨hb, (by (repeat (first | exact sub_nil _ | refine sub_cons (by rfl) ?_))), (by (repeat (first | exact sub_nil _ | refine sub_cons (by rfl) ?_)))⟩
  · -- the closure is laid
    obtain ⟨hb, hf2, hs2⟩ := hq2
    have hr2 := hr2.sub hf2 hs2
    have v4 : a2.tmps.getD 4 undef = .pointer (some ⟨γ2 1002, 0, none⟩) := by
      have := hr2.fr 4 (.one (.po 1002 0)) rfl
      cases this with | one h => exact h
    have v5 : a2.tmps.getD 5 undef = .pointer (some ⟨γ2 1003, 0, none⟩) := by
      have := hr2.fr 5 (.one (.po 1003 0)) rfl
      cases this with | one h => exact h
    refine wp_seq (wp_region_lit ?_)
    refine wpList_plain rfl fun K1 hK1 => ?_
    unfold Oper.wp
    have x4 : a2.eval (.tmp 4) = .pointer (some ⟨γ2 1002, 0, none⟩) := v4
    have x5 : a2.eval (.tmp 5) = .pointer (some ⟨γ2 1003, 0, none⟩) := v5
    simp only [execOp, List.map_toArray, List.map_cons, List.map_nil, x4, x5]
    refine hK1 _ _ (wpList_plain rfl fun K2 hK2 => ?_)
    have lt11 : 11 < a2.tmps.size := by have h : a2.tmps.size = 24 := hr2.nt; omega
    generalize hF : Value.func (.func 41) #[] #[.pointer (some ⟨γ2 1002, 0, none⟩), .pointer (some ⟨γ2 1003, 0, none⟩)] = F
    have x11 : (a2.put (some 11) F).eval (.tmp 11) = F := put_getD F lt11
    have hr3 := hr2.put (dst := some 11) (x := .junk) (v := F) (show inF _ (some 11) = true by rfl) (.junk _)
    unfold Oper.wp
    have xd : ∀ {o : Oper}, o.op = .defer { callee := .value (.tmp 11), args := #[], argTypes := #[] } → (execOp (a2.put (some 11) F).eval o).run Try.prog w2 = .ok (.defer { target := .fn (.func 41) #[.pointer (some ⟨γ2 1002, 0, none⟩), .pointer (some ⟨γ2 1003, 0, none⟩)], args := #[] }) w2 := fun ho => by
      simp only [execOp, ho, resolve, x11]
      rw [← hF]
      simp [Deferred.ofValue]
    show Oper.upon Try.prog _ (a2.put (some 11) F) K2 _ ((execOp (a2.put (some 11) F).eval _).run Try.prog w2)
    rw [xd rfl, Oper.upon_defer]
    refine hK2 _ _ (wpList_nil ?_)
    obtain ⟨dd, hdd⟩ : ∃ dd : Deferred, dd = { target := .fn (.func 41) #[.pointer (some ⟨γ2 1002, 0, none⟩), .pointer (some ⟨γ2 1003, 0, none⟩)], args := #[] } := ⟨_, rfl⟩
    have hr4 : Rel (cx Try.f15.ntmps ⟨w, fun b => b < w.heap.size, pinE γ2, [dd]⟩ S) γ2 T2 S2 w2 [(1, vL (ps.map encPr)), (2, .one (.d (.pi (encE e)))), (4, .one (.po 1002 0)), (5, .one (.po 1003 0))] [(1002, .obj 24 zC), (1003, .cell 32 (.d (.v (.int .i64 0))))]
        ({ (a2.put (some 11) F) with defers := dd :: (a2.put (some 11) F).defers } : Act) := by
      refine ⟨⟨hr3.st.keep, hr3.st.lt, hr3.st.nlt, hr3.st.set, hr3.st.mon, fun k ob hk => (hr3.st.obj k ob hk).cx2 (fun b hb => (hr3.st.obj k ob hk).free hb) (fun _ b hb => ?_), hr3.st.dis⟩, fun t x hx => hr3.fr t x ?_, hr3.nt, ?_⟩
      · have hb : (if k < _ then none else pinE γ2 k) = some b := hb
        split at hb
        · cases hb
        · unfold pinE at hb
          split at hb
          · rename_i e1; subst e1; injection hb
          · split at hb
            · rename_i e1; subst e1; injection hb
            · cases hb
      · simp only [putF, look] at hx ⊢
        by_cases e1 : 11 = t
        · subst e1; simp at hx
        · rw [if_neg e1]; exact hx
      · show dd :: (a2.put (some 11) F).defers = [dd]
        rw [show (a2.put (some 11) F).defers = [] from hr3.df]
    have hinv : ∀ w : World, (invoke dd.target dd.args).run Try.prog w = .ok (.enter 41 #[.pointer (some ⟨γ2 1002, 0, none⟩), .pointer (some ⟨γ2 1003, 0, none⟩)]) w := fun w => by rw [hdd]; rfl
    rw [← hdd]
    refine Code.wp_mono (Q := LQ (cx Try.f15.ntmps ⟨w, fun b => b < w.heap.size, pinE γ2, [dd]⟩ S) (QC (cx Try.f15.ntmps ⟨w, fun b => b < w.heap.size, pinE γ2, [dd]⟩ S) (evalR ps e) (evalE ps e).isNone)) (fun ex a' w' hq => ?_) (W.out ?_ γ2 T2 S2 w2 _ hr4)
    · obtain ⟨γ3, T3, S3, fr3, σ3, hr5, hq⟩ := hq
      cases ex with
      | ret =>
        obtain ⟨_, y, h1, h2⟩ := hq
        obtain ⟨v, g1, g2⟩ := fin_ret hr5 h1 h2
        show Leaves _ _ _ _ a'.defers .returning w'
        rw [show a'.defers = [dd] from hr5.df, hdd]
        refine leaves_cons (by simp) (by rw [hdd] at hinv; exact hinv w') ((catch_idle _ _ w').mono ?_)
        rintro ee u' w'' ⟨rfl, rfl, rfl⟩
        exact ⟨v, g1, g2⟩
      | panic ch =>
        obtain ⟨hn, rfl, hf5, hs5⟩ := hq
        have hr5 := hr5.sub hf5 hs5
        have hE : evalR ps e = (zeroVal, 4) := by
          unfold evalR
          rw [if_neg (by rw [hb]; decide), Option.isNone_iff_eq_none.1 hn]
        obtain ⟨us, u1, ⟨u2, u3⟩, u4, u5, u6⟩ := hr5.st.obj 1002 (.obj 24 zC) rfl
        obtain ⟨e0, y1, y2, y3, y4, y5, y6⟩ := hr5.st.obj 1003 (.cell 32 (.d (.v (.int .i64 0)))) rfl
        have q2 : γ3 1002 = γ2 1002 := (u6 (γ2 1002) (by rfl))
        have q3 : γ3 1003 = γ2 1003 := (y6 (γ2 1003) (by rfl))
        have hne : γ3 1002 ≠ γ3 1003 := hr5.st.dis 1002 1003 (.obj 24 zC) (.cell 32 (.d (.v (.int .i64 0)))) rfl rfl (by decide) (γ3 1002) rfl
        show Leaves _ _ _ _ a'.defers (.panicking (chainP pvWrong)) w'
        rw [show a'.defers = [dd] from hr5.df, hdd]
        rw [hdd, ← q2, ← q3] at hinv
        rw [← q2, ← q3]
        refine leaves_cons (by simp) (hinv w') ((catch_p (γ3 1002) (γ3 1003) us.toArray e0 w' u1 (by rw [List.size_toArray, u2]; rfl) y1 hne).mono ?_)
        rintro ee u' w'' ⟨rfl, rfl, rfl⟩
        -- memory behind it
        have g1 := hr5.grow (below_alloc w' (.cells #[] 89)) (fun _ _ h => h) (fun _ _ h => .inl h)
        obtain ⟨us', u1', _, u4', u5', u6'⟩ := g1.st.obj 1002 (.obj 24 zC) rfl
        have g2 := (g1.chg (k := 1002) (ob' := .obj 24 zC) rfl rfl rfl (onlyAt_row _ (γ3 1002) zeroCs) ⟨zeroCs.toList, setRow_heap _ _ _ _ _ _ u1', ⟨rfl, fun j c hc => ?_⟩, u4', u5', u6'⟩).1
        · obtain ⟨e0', y1', _, _, y4', y5', y6'⟩ := g2.st.obj 1003 (.cell 32 (.d (.v (.int .i64 0)))) rfl
          have g3 := (g2.chg (k := 1003) (ob' := .cell 32 (.d (.v (.int .i64 4)))) rfl rfl rfl (onlyAt_row _ (γ3 1003) #[.int .i64 4]) ⟨.int .i64 4, setRow_heap _ _ _ _ _ _ y1', .v _ rfl, rfl, y4', y5', y6'⟩).1
          obtain ⟨v, g1, g2⟩ := fin_ret (x := .tup [.dat (encV zeroVal), vI 4]) g3 rfl rfl
          refine ⟨v, g1, ?_⟩
          rw [hE]
          exact g2
        · match j, hc with
          | 0, hc => injection hc with hc; subst hc; exact ⟨.int .i64 0, rfl, .v _ rfl, rfl⟩
          | 1, hc => injection hc with hc; subst hc; exact ⟨.int .i64 0, rfl, .v _ rfl, rfl⟩
          | 2, hc => injection hc with hc; subst hc; exact ⟨.float .f64 0, rfl, .v _ rfl, rfl⟩
          | 3, hc => injection hc with hc; subst hc; exact ⟨.string ⟨#[]⟩, rfl, .v _ rfl, rfl⟩
      | normal => exact hq.elim
      | exit id => exact hq.elim
      | goto l => exact hq.elim
      | outgrown => exact hq.elim
    · have hre : rightE e = true := by
        unfold exprRight at hb
        rw [Bool.and_eq_true] at hb
        exact hb.2
      have hV := value_all ps e hre false
      refine W_seq ?_
      refine W_region ?_
      iterate 4 (first | refine W_seq ?_ | refine W_region ?_ | (refine RL_nil ?_; (first | change W _ _ _ _ _ | change EndQ _ _ _ _ _ _ | change Exists _ | change EndG _ _ _ _ _ _ _ _ _ _ | change EndM _ _ _ _ _ _ _ | skip)) | (refine isRL ?_; first | refine uMv ?_ | refine uAs ?_ | (refine isLd ?_; first | refine uLp ?_ | refine uLb ?_ | refine uL1 ?_ | refine uL2 ?_ | refine uP ?_) | (refine isCl ?_; first | refine uP ?_) | (refine isFa ?_; first | refine uP ?_) | (refine isBd ?_; first | refine uBd ?_ | refine uP ?_) | (refine isSt ?_; first | refine uSw ?_ | refine uS ?_ | refine uSc ?_ | refine uSo ?_) | refine uBu true ?_ | refine uBu false ?_ | refine uNp ?_ | refine uP ?_ | refine uBx ?_ | refine uN ?_) | refine W_cond true (by rfl) (fun _ => ?_) (fun h => by cases h) | refine W_cond false (by rfl) (fun h => by cases h) (fun _ => ?_) | (refine W_skip ?_; (first | change W _ _ _ _ _ | change EndQ _ _ _ _ _ _ | change Exists _ | change EndG _ _ _ _ _ _ _ _ _ _ | change EndM _ _ _ _ _ _ _ | skip)) | (refine W_ret ?_; (first | change W _ _ _ _ _ | change EndQ _ _ _ _ _ _ | change Exists _ | change EndG _ _ _ _ _ _ _ _ _ _ | change EndM _ _ _ _ _ _ _ | skip)) | refine wCsD (fun hb => ?_) (fun hb => ?_) | refine wCsE (fun hb => ?_) (fun hb => ?_) | refine wCsN (fun hb => ?_) (fun hb => ?_) | refine wCsND (fun hb => ?_) (fun hb => ?_) | refine wCsNE (fun hb => ?_) (fun hb => ?_) | refine wCsNB (fun hb => ?_) (fun hb => ?_) | refine wCs (fun hb => ?_) (fun hb => ?_))
      refine RL_nil ?_
      refine wBO 14 (pin_none (pinE_none (γ := γ2) (k := 14) (by decide) (by decide))) ?_
      refine wRn 14 1001 (pin_none (pinE_none (γ := γ2) (k := 1001) (by decide) (by decide))) ?_
      cases hev : evalE ps e with
      | none =>
        rw [hev] at hV
        simp only at hV
        repeat' (first | refine W_seq ?_ | (refine W_regC 2 42 rfl rfl ?_; simp only [List.take_succ_cons, List.take_zero]) | refine W_region ?_ | (refine RL_nil ?_; (first | change W _ _ _ _ _ | change EndQ _ _ _ _ _ _ | change Exists _ | change EndG _ _ _ _ _ _ _ _ _ _ | change EndM _ _ _ _ _ _ _ | skip)) | (refine isRL ?_; first | refine uMv ?_ | refine uAs ?_ | (refine isLd ?_; first | refine uLp ?_ | refine uLb ?_ | refine uL1 ?_ | refine uL2 ?_ | refine uP ?_) | (refine isCl ?_; first | refine uP ?_) | (refine isFa ?_; first | refine uP ?_) | (refine isBd ?_; first | refine uBd ?_ | refine uP ?_) | (refine isSt ?_; first | refine uSw ?_ | refine uS ?_ | refine uSc ?_ | refine uSo ?_) | refine uBu true ?_ | refine uBu false ?_ | refine uNp ?_ | refine uP ?_ | refine uBx ?_ | refine uN ?_) | refine W_cond true (by rfl) (fun _ => ?_) (fun h => by cases h) | refine W_cond false (by rfl) (fun h => by cases h) (fun _ => ?_) | (refine W_skip ?_; (first | change W _ _ _ _ _ | change EndQ _ _ _ _ _ _ | change Exists _ | change EndG _ _ _ _ _ _ _ _ _ _ | change EndM _ _ _ _ _ _ _ | skip)) | (refine W_ret ?_; (first | change W _ _ _ _ _ | change EndQ _ _ _ _ _ _ | change Exists _ | change EndG _ _ _ _ _ _ _ _ _ _ | change EndM _ _ _ _ _ _ _ | skip)) | refine wCsD (fun hb => ?_) (fun hb => ?_) | refine wCsE (fun hb => ?_) (fun hb => ?_) | refine wCsN (fun hb => ?_) (fun hb => ?_) | refine wCsND (fun hb => ?_) (fun hb => ?_) | refine wCsNE (fun hb => ?_) (fun hb => ?_) | refine wCsNB (fun hb => ?_) (fun hb => ?_) | refine wCs (fun hb => ?_) (fun hb => ?_))
        refine uPanS hV ?_
        exact ⟨rfl, rfl, (by (repeat (first | exact sub_nil _ | refine sub_cons (by rfl) ?_))), (by (repeat (first | exact sub_nil _ | refine sub_cons (by rfl) ?_)))⟩
      | some r =>
        rw [hev] at hV
        simp only [Bool.false_or] at hV
        obtain ⟨v, ov⟩ := r
        cases ov with
        | true =>
          have hE : evalR ps e = (zeroVal, 7) := by unfold evalR; rw [if_neg (by rw [hb]; decide), hev]; rfl
          rw [hE]
          repeat' (first | refine W_seq ?_ | refine W_region ?_ | (refine RL_nil ?_; (first | change W _ _ _ _ _ | change EndQ _ _ _ _ _ _ | change Exists _ | change EndG _ _ _ _ _ _ _ _ _ _ | change EndM _ _ _ _ _ _ _ | skip)) | (refine isRL ?_; first | refine uMv ?_ | refine uAs ?_ | (refine isLd ?_; first | refine uLp ?_ | refine uLb ?_ | refine uL1 ?_ | refine uL2 ?_ | refine uP ?_) | (refine isCl ?_; first | refine uM (hV) ?_ | refine uP ?_) | (refine isFa ?_; first | refine uP ?_) | (refine isBd ?_; first | refine uBd ?_ | refine uP ?_) | (refine isSt ?_; first | refine uSw ?_ | refine uS ?_ | refine uSc ?_ | refine uSo ?_) | refine uBu true ?_ | refine uBu false ?_ | refine uNp ?_ | refine uP ?_ | refine uBx ?_ | refine uN ?_) | refine W_cond true (by rfl) (fun _ => ?_) (fun h => by cases h) | refine W_cond false (by rfl) (fun h => by cases h) (fun _ => ?_) | (refine W_skip ?_; (first | change W _ _ _ _ _ | change EndQ _ _ _ _ _ _ | change Exists _ | change EndG _ _ _ _ _ _ _ _ _ _ | change EndM _ _ _ _ _ _ _ | skip)) | (refine W_ret ?_; (first | change W _ _ _ _ _ | change EndQ _ _ _ _ _ _ | change Exists _ | change EndG _ _ _ _ _ _ _ _ _ _ | change EndM _ _ _ _ _ _ _ | skip)) | refine wCsD (fun hb => ?_) (fun hb => ?_) | refine wCsE (fun hb => ?_) (fun hb => ?_) | refine wCsN (fun hb => ?_) (fun hb => ?_) | refine wCsND (fun hb => ?_) (fun hb => ?_) | refine wCsNE (fun hb => ?_) (fun hb => ?_) | refine wCsNB (fun hb => ?_) (fun hb => ?_) | refine wCs (fun hb => ?_) (fun hb => ?_))
          all_goals exact ⟨rfl, _, by rfl, by rfl⟩
        | false =>
          have hE : evalR ps e = (v, 0) := by unfold evalR; rw [if_neg (by rw [hb]; decide), hev]; rfl
          rw [hE]
          repeat' (first | refine W_seq ?_ | refine W_region ?_ | (refine RL_nil ?_; (first | change W _ _ _ _ _ | change EndQ _ _ _ _ _ _ | change Exists _ | change EndG _ _ _ _ _ _ _ _ _ _ | change EndM _ _ _ _ _ _ _ | skip)) | (refine isRL ?_; first | refine uMv ?_ | refine uAs ?_ | (refine isLd ?_; first | refine uLp ?_ | refine uLb ?_ | refine uL1 ?_ | refine uL2 ?_ | refine uP ?_) | (refine isCl ?_; first | refine uM (hV) ?_ | refine uP ?_) | (refine isFa ?_; first | refine uP ?_) | (refine isBd ?_; first | refine uBd ?_ | refine uP ?_) | (refine isSt ?_; first | refine uSw ?_ | refine uS ?_ | refine uSc ?_ | refine uSo ?_) | refine uBu true ?_ | refine uBu false ?_ | refine uNp ?_ | refine uP ?_ | refine uBx ?_ | refine uN ?_) | refine W_cond true (by rfl) (fun _ => ?_) (fun h => by cases h) | refine W_cond false (by rfl) (fun h => by cases h) (fun _ => ?_) | (refine W_skip ?_; (first | change W _ _ _ _ _ | change EndQ _ _ _ _ _ _ | change Exists _ | change EndG _ _ _ _ _ _ _ _ _ _ | change EndM _ _ _ _ _ _ _ | skip)) | (refine W_ret ?_; (first | change W _ _ _ _ _ | change EndQ _ _ _ _ _ _ | change Exists _ | change EndG _ _ _ _ _ _ _ _ _ _ | change EndM _ _ _ _ _ _ _ | skip)) | refine wCsD (fun hb => ?_) (fun hb => ?_) | refine wCsE (fun hb => ?_) (fun hb => ?_) | refine wCsN (fun hb => ?_) (fun hb => ?_) | refine wCsND (fun hb => ?_) (fun hb => ?_) | refine wCsNE (fun hb => ?_) (fun hb => ?_) | refine wCsNB (fun hb => ?_) (fun hb => ?_) | refine wCs (fun hb => ?_) (fun hb => ?_))
          all_goals exact ⟨rfl, _, by rfl, by rfl⟩
  · -- an expression that may not be
    cases ex with
    | ret =>
      obtain ⟨hb, y, h1, h2⟩ := hq
      obtain ⟨v, g1, g2⟩ := fin_ret hr2 h1 h2
      show Leaves _ _ _ _ a2.defers .returning w2
      rw [show a2.defers = [] from hr2.df]
      refine ⟨v, g1, ?_⟩
      have hev : evalR ps e = (zeroVal, 1) := by unfold evalR; rw [if_pos hb]
      rw [hev]
      exact g2
    | normal => exact absurd rfl hne
    | exit id => exact hq.elim
    | goto l => exact hq.elim
    | panic ch => exact hq.elim
    | outgrown => exact hq.elim
end Go.Proofs.Ytjhkehloipmjfaa
