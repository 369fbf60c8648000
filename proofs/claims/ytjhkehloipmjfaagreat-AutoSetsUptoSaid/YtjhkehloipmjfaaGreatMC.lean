/- More steps of walks with structs of one's own: laid out with nil slices known as nil; fields that become slices of one's own; pointers looked at for nil; structs of numbers compared. -/
import Derived.Test.YtjhkehloipmjfaaGreatMB
import Derived.Laws.StructEq
namespace Go.Proofs.YtjhkehloipmjfaaGreat
open Go.RowKit
section
variable {X : Ctx} {γ : Nat → Nat} {T : Nat → Value} {S : Nat → Nat → Prop} {w : World} {fr : Fr} {σ : Obs} {a : Act} {o : Oper} {ops : Array Oper} {rest : List Oper} {Q : Fr → Obs → Prop}
theorem RCL.raws {l : List Value} (h : l.all (·.oneCell') = true) : RCL γ T S w (l.map fun v => C.d (.v v)) l :=
  ⟨by simp, fun j c hc => by
    rw [List.getElem?_map, Option.map_eq_some_iff] at hc
    obtain ⟨v, hv, rfl⟩ := hc
    have h1 := List.all_eq_true.1 h v (List.mem_of_getElem? hv)
    exact ⟨v, hv, RD.v v h1, h1⟩⟩
/-- a struct is written out, its nil slices known as nil -/
theorem RL_bdZ (hT : Good X) {d : Nat} {t : TypeId} {ps : Array (Nat × Operand)} {i : TyI} {ds : List C} (hw : wantA ops o fr = some true) (hdst : o.dst = some d) (hd : Nat.blt d X.nt = true) (ho : o.op = .build t ps) (hi : X.Ty t = some i) (htag : i.tag = 1) (hl : layC i.places fr ps.toList (i.zero.map fun v => .d (.v v)) = some ds)
    (h : RL X ops rest ((d, .ag ds) :: fr) σ Q) : RL X ops (o :: rest) fr σ Q :=
  ⟨fun γ T S w a K hr hk => wpList_step fun K' hK => by
    rw [if_pos (wantA_sound hr hw)]
    have hok := hT t i hi
    obtain ⟨inf, dd, h1, h2, h3, h4, h5, h6, h7, h8, h9, h10⟩ := hok.get
    rw [htag] at h10
    cases dd with
    | struct fs =>
      simp only [aggOf] at h6
      rw [if_pos h6.symm] at h5
      obtain ⟨cells', g1, g2⟩ := layC_sound hr ps.toList (i.zero.map fun v => .d (.v v)) i.zero.toArray (RCL.raws hok.z1) hl
      have hb : X.P.built t (ps.map fun p => (p.1, a.eval p.2)).toList = some cells' := by
        unfold Program.built
        simp only [h1, h2, h5]
        rw [show fs.toList.mapM (fun f => (X.P.info? f.type).map fun i => (f.offset, i.size)) = some i.places from h8]
        simpa [Value.cells] using g1
      have hex : (execOp a.eval o).run X.P w = .ok (.value (.agg cells')) w := by
        simp only [execOp, ho, Sem.run_bind, run_build w t _ _ hb, Result.andThen_ok, Sem.run_pure]
      unfold Oper.wp
      rw [hex]
      refine hK _ _ (h.out γ T S w _ K ?_ hk)
      rw [hdst]
      exact hr.put (dst := some d) hd (by simpa using RV.ag (γ := γ) (T := T) ds cells'.toList g2.1 fun j c hc => let ⟨u, q1, q2, _⟩ := g2.2 j c hc; ⟨u, q1, q2⟩)
    | _ => simp [tagOf] at h10⟩
/-- a variable that is a struct, its nil slices known as nil -/
theorem RL_alO (hT : Good X) {d : Nat} {t : TypeId} {i : TyI} (hw : wantA ops o fr = some true) (hdst : o.dst = some d) (hd : Nat.blt d X.nt = true) (ho : o.op = .alloc t) (hi : X.Ty t = some i) (ha : i.agg = true)
    (h : RL X ops rest ((d, .one (.po d 0)) :: stripF d fr) ((d, .obj t (i.zero.map fun v => C.d (.v v))) :: stripS d σ) Q) : RL X ops (o :: rest) fr σ Q :=
  ⟨fun γ T S w a K hr hk => wpList_step fun K' hK => by
    rw [if_pos (wantA_sound hr hw)]
    have hok := hT t i hi
    obtain ⟨inf, dd, h1, h2, h3, h4, h5, h6, _⟩ := hok.get
    rw [if_pos ha] at h5
    have hex : (execOp a.eval o).run X.P w = .ok (.value (.pointer (some ⟨w.heap.size, 0, none⟩))) (w.alloc (.cells i.zero.toArray t)) := by
      simp only [execOp, ho, Instr.alloc, Sem.run_bind, run_zero h1 h5, Result.andThen_ok, run_newVar, Sem.run_pure, Value.cells]
    unfold Oper.wp
    rw [hex]
    have h7 := hr.alloc d i.zero t (.obj t (i.zero.map fun v => C.d (.v v))) (fun γ' _ hg => ⟨i.zero, by rw [hg]; exact heap_alloc_new w _, RCL.raws hok.z1, by rw [hg]; exact (new_one hr _ (Nat.le_refl _)).1, by rw [hg]; exact (new_one hr _ (Nat.le_refl _)).2, fun b hb => by rw [X.low d (Nat.blt_eq ▸ hd)] at hb; cases hb⟩) (fun _ _ hb => hb)
    refine hK _ _ (h.out (setK γ d w.heap.size) T S _ _ K ?_ hk)
    rw [hdst]
    exact h7.put (dst := some d) hd (.one (by simp only [RC, setK_at]))⟩
/-- .. of a value that is written out -/
theorem RL_bxO {d : Nat} {t : TypeId} {x : Operand} {cs : List C} (hw : wantA ops o fr = some true) (hdst : o.dst = some d) (hd : Nat.blt d X.nt = true) (ho : o.op = .box t x) (hx : ev fr x = some (.ag cs)) (_hfree : stripL d cs = cs)
    (hone : ∀ c ∈ cs, (∃ v, c = .d v) ∨ ∃ k r, c = .own k r)
    (h : RL X ops rest ((d, .one (.po d 0)) :: stripF d fr) ((d, .obj t cs) :: stripS d σ) Q) : RL X ops (o :: rest) fr σ Q :=
  ⟨fun γ T S w a K hr hk => wpList_step fun K' hK => by
    rw [if_pos (wantA_sound hr hw)]
    have hv := ev_sound hr hx
    generalize he : a.eval x = v at hv
    cases hv with
    | ag _ us len val =>
      have hex : (execOp a.eval o).run X.P w = .ok (.value (.pointer (some ⟨w.heap.size, 0, none⟩))) (w.alloc (.cells us.toArray t)) := by
        simp only [execOp, ho, he, Instr.box, Sem.run_bind, Result.andThen_ok, run_newVar, Sem.run_pure, Value.cells]
      unfold Oper.wp
      rw [hex]
      have hrc : RCL γ T S w cs us := ⟨len, fun j c hc => by
        obtain ⟨u, h1, h2⟩ := val j c hc
        refine ⟨u, h1, h2, ?_⟩
        rcases hone c (List.mem_of_getElem? hc) with ⟨y, rfl⟩ | ⟨k, r, rfl⟩
        · exact RD.one h2
        · exact RD.one h2.1⟩
      have h7 := hr.alloc d us t (.obj t cs) (fun γ' hne hg => ⟨us, by rw [hg]; exact heap_alloc_new w _, by
          have h8 : RCL γ' T S w cs us := ⟨len, fun j c hc => by
            obtain ⟨u, h1, h2, h3⟩ := hrc.2 j c hc
            refine ⟨u, h1, ?_, h3⟩
            rcases hone c (List.mem_of_getElem? hc) with ⟨y, rfl⟩ | ⟨k, r, rfl⟩
            · exact h2
            · exact h2⟩
          exact h8.mono (fun _ _ hs => hs) (.of_below hr.st.lt (below_alloc _ _)), by rw [hg]; exact (new_one hr _ (Nat.le_refl _)).1, by rw [hg]; exact (new_one hr _ (Nat.le_refl _)).2, fun b hb => by rw [X.low d (Nat.blt_eq ▸ hd)] at hb; cases hb⟩) (fun _ _ hb => hb)
      refine hK _ _ (h.out (setK γ d w.heap.size) T S _ _ K ?_ hk)
      rw [hdst]
      exact h7.put (dst := some d) hd (.one (by simp only [RC, setK_at]))⟩
/-- a field that is nil becomes a slice of one's own -/
theorem Rel.nil_cell {k key j : Nat} {ty e : TypeId} {sz : Nat} {cs : List C} {y : Value} (hne : k ≠ key) (hr : Rel X γ T S w fr σ a) (hk : look σ k = some (.obj ty cs)) (hj : cs[j]? = some (.d (.v y))) (hy : isNil y = true) :
    Rel X γ (setK T key (.slice none 0 0)) S w (stripF key fr) ((k, .obj ty ((stripL key cs).set j (.own key []))) :: (key, .tok e sz) :: stripS key σ) a := by
  have h1 := hr.nil_ key e sz
  have hlk : look ((key, Ob.tok e sz) :: stripS key σ) k = some (.obj ty (stripL key cs)) := by
    rw [look_cons, if_neg (Ne.symm hne), look_stripS, hk, Option.map_some, if_neg hne]; rfl
  obtain ⟨us, q1, ⟨q2, q3⟩, q4⟩ := h1.st.obj k _ hlk
  have hjs : (stripL key cs)[j]? = some (.d (.v y)) := by
    unfold stripL
    rw [List.getElem?_map, hj]; rfl
  obtain ⟨⟨keep, lt, nlt, set, mon, obj, dis⟩, hfr, hn, hd⟩ := h1
  have hro : RO X γ (setK T key (.slice none 0 0)) S w k (.obj ty ((stripL key cs).set j (.own key []))) := by
    refine ⟨us, q1, ⟨by rw [List.length_set]; exact q2, fun i c hc => ?_⟩, q4⟩
    by_cases e : j = i
    · subst e
      rw [List.getElem?_set_self (List.getElem?_eq_some_iff.1 hjs).1] at hc
      injection hc with hc; subst hc
      obtain ⟨u, g1, g2, g3⟩ := q3 j _ hjs
      have hu := val_sound (γ := γ) (T := T) (RV.one (c := .d (.v y)) g2)
      rw [isNil_eq hy] at hu; subst hu
      exact ⟨_, g1, ⟨RD.nil_, setK_at _ _ _⟩, g3⟩
    · rw [List.getElem?_set_ne e] at hc
      exact q3 i c hc
  refine ⟨⟨keep, lt, nlt, set, mon, fun i o hi => ?_, fun i i' o o' hi hi' hne b hb => ?_⟩, hfr, hn, hd⟩
  · rw [look_cons] at hi
    split at hi
    · rename_i e; injection hi with hi; subst hi; subst e; exact hro
    · exact obj i o hi
  · rw [look_cons] at hi hi'
    split at hi <;> split at hi'
    · rename_i e1 e2; exact (hne (e1.symm.trans e2)).elim
    · rename_i e1 e2; injection hi with hi; subst hi; subst e1; exact dis _ i' _ o' hlk hi' hne b hb
    · rename_i e1 e2; injection hi' with hi'; subst hi'; subst e2; exact fun hb' => dis i _ o _ hi hlk hne b hb hb'
    · exact dis i i' o o' hi hi' hne b hb
theorem RL_nilO (k key j : Nat) {ty e : TypeId} {sz : Nat} {cs : List C} {y : Value} (hne : k ≠ key) (hk : look σ k = some (.obj ty cs)) (hj : cs[j]? = some (.d (.v y))) (hy : isNil y = true) {l : List Oper}
    (h : RL X ops l (stripF key fr) ((k, .obj ty ((stripL key cs).set j (.own key []))) :: (key, .tok e sz) :: stripS key σ) Q) : RL X ops l fr σ Q :=
  ⟨fun γ _ S w a K hr hkk => h.out γ _ S w a K (hr.nil_cell hne hk hj hy) hkk⟩
/-- a pointer to a variable of one's own is not nil -/
theorem exec_nc {x : Operand} {k off : Nat} (ho : o.op = .nilCheck x) (hr : Rel X γ T S w fr σ a) (hx : ev fr x = some (.one (.po k off))) : (execOp a.eval o).run X.P w = .ok (.value (.pointer (some ⟨γ k, off, none⟩))) w := by
  have hv := ev_sound hr hx
  cases hv with
  | one hv =>
    have e : a.eval x = .pointer (some ⟨γ k, off, none⟩) := hv
    simp only [execOp, ho, e, Sem.run_pure]
theorem RL_nc {x : Operand} {k off d : Nat} (hw : wantA ops o fr = some true) (hdst : o.dst = some d) (hd : Nat.blt d X.nt = true) (ho : o.op = .nilCheck x) (hx : ev fr x = some (.one (.po k off))) (h : RL X ops rest ((d, .one (.po k off)) :: fr) σ Q) : RL X ops (o :: rest) fr σ Q :=
  ⟨fun γ T S w a K hr hk => wpList_step fun K' hK => by
    rw [if_pos (wantA_sound hr hw)]
    unfold Oper.wp
    rw [exec_nc ho hr hx]
    refine hK _ _ (h.out γ T S w _ K ?_ hk)
    rw [hdst]
    exact hr.put (dst := some d) hd (.one rfl)⟩
variable {τ0 σB : Obs} {K : List Cr} {C0 : Cons} {QD : Fr → Obs → Prop} {i0 : Nat}
theorem D_nc {x : Operand} {k off d : Nat} (hdst : o.dst = some d) (hd : Nat.blt d X.nt = true) (hw : wantA ops o (restr ops o fr) = some true) (ho : o.op = .nilCheck x) (hx : ev (restr ops o fr) x = some (.one (.po k off))) (hm : MenOk o K (.one (.po k off)))
    (h : DSeq X ops τ0 σB QD (i0 + 1) K C0 rest ((d, .one (.po k off)) :: fr)) : DSeq X ops τ0 σB QD i0 K C0 (o :: rest) fr :=
  D_pure hdst hd hm (.inr ⟨hw, fun _ _ S w _ hr => .inl ⟨_, w, exec_nc ho hr hx, S, grows_refl S w, .one rfl⟩⟩) h
end
section
variable {w0 : W0} {S0 : Nat → Nat → Prop} {nt : Nat} {fr fr1 : Fr} {σ σ1 σ2 τ0 τ1 σB : Obs} {o : Oper} {ops : Array Oper} {rest : List Oper} {Q : Fr → Obs → Prop} {d k : Nat} {xx : Operand} {QQ : Exit → Fr → Obs → Prop} {QD : Fr → Obs → Prop} {K : List Cr} {C0 : Cons} {j0 : Nat}
theorem uBdZ {t : TypeId} {ps : Array (Nat × Operand)} {i : TyI} {ds cs : List C} (h : RL (cx nt w0 S0) ops rest ((d, .ag cs) :: fr) σ Q) (ho : o.op = .build t ps := by rfl) (hw : wantA ops o fr = some true := by rfl) (hdst : o.dst = some d := by rfl) (hd : Nat.blt d nt = true := by rfl) (hi : Ty t = some i := by rfl) (ht : i.tag = 1 := by rfl)
    (hl : layC i.places fr ps.toList (i.zero.map fun v => .d (.v v)) = some ds := by first | exact layC_nil _ _ _ | exact (layC_cons (by rfl) (by rfl) (by first | rfl | exact encE_len _ | exact encP_len _ | exact encQ_len _ | (simp only [encE_len]; done) | (simp only [encP_len])) (by first | decide | exact Nat.le_of_ble_eq_true rfl | (simp only [List.length_map]; decide)) (layC_nil _ _ _)) | exact (layC_cons (by rfl) (by rfl) (by first | rfl | exact encE_len _ | exact encP_len _ | exact encQ_len _ | (simp only [encE_len]; done) | (simp only [encP_len])) (by first | decide | exact Nat.le_of_ble_eq_true rfl | (simp only [List.length_map]; decide)) (layC_cons (by rfl) (by rfl) (by first | rfl | exact encE_len _ | exact encP_len _ | exact encQ_len _ | (simp only [encE_len]; done) | (simp only [encP_len])) (by first | decide | exact Nat.le_of_ble_eq_true rfl | (simp only [List.length_map]; decide)) (layC_nil _ _ _))) | exact (layC_cons (by rfl) (by rfl) (by first | rfl | exact encE_len _ | exact encP_len _ | exact encQ_len _ | (simp only [encE_len]; done) | (simp only [encP_len])) (by first | decide | exact Nat.le_of_ble_eq_true rfl | (simp only [List.length_map]; decide)) (layC_cons (by rfl) (by rfl) (by first | rfl | exact encE_len _ | exact encP_len _ | exact encQ_len _ | (simp only [encE_len]; done) | (simp only [encP_len])) (by first | decide | exact Nat.le_of_ble_eq_true rfl | (simp only [List.length_map]; decide)) (layC_cons (by rfl) (by rfl) (by first | rfl | exact encE_len _ | exact encP_len _ | exact encQ_len _ | (simp only [encE_len]; done) | (simp only [encP_len])) (by first | decide | exact Nat.le_of_ble_eq_true rfl | (simp only [List.length_map]; decide)) (layC_nil _ _ _)))) | exact (layC_cons (by rfl) (by rfl) (by first | rfl | exact encE_len _ | exact encP_len _ | exact encQ_len _ | (simp only [encE_len]; done) | (simp only [encP_len])) (by first | decide | exact Nat.le_of_ble_eq_true rfl | (simp only [List.length_map]; decide)) (layC_cons (by rfl) (by rfl) (by first | rfl | exact encE_len _ | exact encP_len _ | exact encQ_len _ | (simp only [encE_len]; done) | (simp only [encP_len])) (by first | decide | exact Nat.le_of_ble_eq_true rfl | (simp only [List.length_map]; decide)) (layC_cons (by rfl) (by rfl) (by first | rfl | exact encE_len _ | exact encP_len _ | exact encQ_len _ | (simp only [encE_len]; done) | (simp only [encP_len])) (by first | decide | exact Nat.le_of_ble_eq_true rfl | (simp only [List.length_map]; decide)) (layC_cons (by rfl) (by rfl) (by first | rfl | exact encE_len _ | exact encP_len _ | exact encQ_len _ | (simp only [encE_len]; done) | (simp only [encP_len])) (by first | decide | exact Nat.le_of_ble_eq_true rfl | (simp only [List.length_map]; decide)) (layC_nil _ _ _))))) | exact (layC_cons (by rfl) (by rfl) (by first | rfl | exact encE_len _ | exact encP_len _ | exact encQ_len _ | (simp only [encE_len]; done) | (simp only [encP_len])) (by first | decide | exact Nat.le_of_ble_eq_true rfl | (simp only [List.length_map]; decide)) (layC_cons (by rfl) (by rfl) (by first | rfl | exact encE_len _ | exact encP_len _ | exact encQ_len _ | (simp only [encE_len]; done) | (simp only [encP_len])) (by first | decide | exact Nat.le_of_ble_eq_true rfl | (simp only [List.length_map]; decide)) (layC_cons (by rfl) (by rfl) (by first | rfl | exact encE_len _ | exact encP_len _ | exact encQ_len _ | (simp only [encE_len]; done) | (simp only [encP_len])) (by first | decide | exact Nat.le_of_ble_eq_true rfl | (simp only [List.length_map]; decide)) (layC_cons (by rfl) (by rfl) (by first | rfl | exact encE_len _ | exact encP_len _ | exact encQ_len _ | (simp only [encE_len]; done) | (simp only [encP_len])) (by first | decide | exact Nat.le_of_ble_eq_true rfl | (simp only [List.length_map]; decide)) (layC_cons (by rfl) (by rfl) (by first | rfl | exact encE_len _ | exact encP_len _ | exact encQ_len _ | (simp only [encE_len]; done) | (simp only [encP_len])) (by first | decide | exact Nat.le_of_ble_eq_true rfl | (simp only [List.length_map]; decide)) (layC_nil _ _ _)))))) | exact (layC_cons (by rfl) (by rfl) (by first | rfl | exact encE_len _ | exact encP_len _ | exact encQ_len _ | (simp only [encE_len]; done) | (simp only [encP_len])) (by first | decide | exact Nat.le_of_ble_eq_true rfl | (simp only [List.length_map]; decide)) (layC_cons (by rfl) (by rfl) (by first | rfl | exact encE_len _ | exact encP_len _ | exact encQ_len _ | (simp only [encE_len]; done) | (simp only [encP_len])) (by first | decide | exact Nat.le_of_ble_eq_true rfl | (simp only [List.length_map]; decide)) (layC_cons (by rfl) (by rfl) (by first | rfl | exact encE_len _ | exact encP_len _ | exact encQ_len _ | (simp only [encE_len]; done) | (simp only [encP_len])) (by first | decide | exact Nat.le_of_ble_eq_true rfl | (simp only [List.length_map]; decide)) (layC_cons (by rfl) (by rfl) (by first | rfl | exact encE_len _ | exact encP_len _ | exact encQ_len _ | (simp only [encE_len]; done) | (simp only [encP_len])) (by first | decide | exact Nat.le_of_ble_eq_true rfl | (simp only [List.length_map]; decide)) (layC_cons (by rfl) (by rfl) (by first | rfl | exact encE_len _ | exact encP_len _ | exact encQ_len _ | (simp only [encE_len]; done) | (simp only [encP_len])) (by first | decide | exact Nat.le_of_ble_eq_true rfl | (simp only [List.length_map]; decide)) (layC_cons (by rfl) (by rfl) (by first | rfl | exact encE_len _ | exact encP_len _ | exact encQ_len _ | (simp only [encE_len]; done) | (simp only [encP_len])) (by first | decide | exact Nat.le_of_ble_eq_true rfl | (simp only [List.length_map]; decide)) (layC_nil _ _ _))))))) | exact (layC_cons (by rfl) (by rfl) (by first | rfl | exact encE_len _ | exact encP_len _ | exact encQ_len _ | (simp only [encE_len]; done) | (simp only [encP_len])) (by first | decide | exact Nat.le_of_ble_eq_true rfl | (simp only [List.length_map]; decide)) (layC_cons (by rfl) (by rfl) (by first | rfl | exact encE_len _ | exact encP_len _ | exact encQ_len _ | (simp only [encE_len]; done) | (simp only [encP_len])) (by first | decide | exact Nat.le_of_ble_eq_true rfl | (simp only [List.length_map]; decide)) (layC_cons (by rfl) (by rfl) (by first | rfl | exact encE_len _ | exact encP_len _ | exact encQ_len _ | (simp only [encE_len]; done) | (simp only [encP_len])) (by first | decide | exact Nat.le_of_ble_eq_true rfl | (simp only [List.length_map]; decide)) (layC_cons (by rfl) (by rfl) (by first | rfl | exact encE_len _ | exact encP_len _ | exact encQ_len _ | (simp only [encE_len]; done) | (simp only [encP_len])) (by first | decide | exact Nat.le_of_ble_eq_true rfl | (simp only [List.length_map]; decide)) (layC_cons (by rfl) (by rfl) (by first | rfl | exact encE_len _ | exact encP_len _ | exact encQ_len _ | (simp only [encE_len]; done) | (simp only [encP_len])) (by first | decide | exact Nat.le_of_ble_eq_true rfl | (simp only [List.length_map]; decide)) (layC_cons (by rfl) (by rfl) (by first | rfl | exact encE_len _ | exact encP_len _ | exact encQ_len _ | (simp only [encE_len]; done) | (simp only [encP_len])) (by first | decide | exact Nat.le_of_ble_eq_true rfl | (simp only [List.length_map]; decide)) (layC_cons (by rfl) (by rfl) (by first | rfl | exact encE_len _ | exact encP_len _ | exact encQ_len _ | (simp only [encE_len]; done) | (simp only [encP_len])) (by first | decide | exact Nat.le_of_ble_eq_true rfl | (simp only [List.length_map]; decide)) (layC_nil _ _ _))))))))) (hs : ds = cs := by first | ((try simp only [spliceC, List.map_cons, List.map_nil, List.set_cons_zero, List.set_cons_succ]) <;> rfl) | rfl) : RL (cx nt w0 S0) ops (o :: rest) fr σ Q :=
  RL_bdZ (X := cx nt w0 S0) ty_ok hw hdst hd ho hi ht hl (hs ▸ h)
theorem uAlO {t : TypeId} {i : TyI} {cs : List C} (h : RL (cx nt w0 S0) ops rest ((d, .one (.po d 0)) :: fr1) ((d, .obj t cs) :: σ1) Q) (ho : o.op = .alloc t := by rfl) (hw : wantA ops o fr = some true := by rfl) (hdst : o.dst = some d := by rfl) (hd : Nat.blt d nt = true := by rfl) (hi : Ty t = some i := by rfl) (ha : i.agg = true := by rfl)
    (hz : (i.zero.map fun v => C.d (.v v)) = cs := by rfl) (hf : stripF d fr = fr1 := by first | ((try simp only [stripF_cons, stripF_nil, stripS_cons, stripS_nil, stripV, plainV, List.all_cons, List.all_nil, Bool.and_self, stripC, stripO, stripA, stripL_nil, stripL_cons, stripL_d, stripL_app, Nat.reduceEqDiff, if_false, if_true, reduceIte, List.contains_nil, List.contains_cons, Nat.reduceBEq, Bool.or_false, Bool.false_eq_true, Bool.or_true]) <;> rfl) | rfl) (hs : stripS d σ = σ1 := by first | ((try simp only [stripF_cons, stripF_nil, stripS_cons, stripS_nil, stripV, plainV, List.all_cons, List.all_nil, Bool.and_self, stripC, stripO, stripA, stripL_nil, stripL_cons, stripL_d, stripL_app, Nat.reduceEqDiff, if_false, if_true, reduceIte, List.contains_nil, List.contains_cons, Nat.reduceBEq, Bool.or_false, Bool.false_eq_true, Bool.or_true]) <;> rfl) | rfl) : RL (cx nt w0 S0) ops (o :: rest) fr σ Q :=
  RL_alO (X := cx nt w0 S0) ty_ok hw hdst hd ho hi ha (hz ▸ hf ▸ hs ▸ h)
theorem uBxO {t : TypeId} {cs : List C} (h : RL (cx nt w0 S0) ops rest ((d, .one (.po d 0)) :: fr1) ((d, .obj t cs) :: σ1) Q) (ho : o.op = .box t xx := by rfl) (hw : wantA ops o fr = some true := by rfl) (hdst : o.dst = some d := by rfl) (hd : Nat.blt d nt = true := by rfl) (hx : ev fr xx = some (.ag cs) := by rfl) (hfree : stripL d cs = cs := by rfl)
    (hone : ∀ c ∈ cs, (∃ v, c = .d v) ∨ ∃ k r, c = .own k r := by (intro c hc; simp only [List.mem_cons, List.not_mem_nil, or_false] at hc; rcases hc with rfl | rfl | rfl <;> first | exact .inl ⟨_, rfl⟩ | exact .inr ⟨_, _, rfl⟩)) (hf : stripF d fr = fr1 := by first | ((try simp only [stripF_cons, stripF_nil, stripS_cons, stripS_nil, stripV, plainV, List.all_cons, List.all_nil, Bool.and_self, stripC, stripO, stripA, stripL_nil, stripL_cons, stripL_d, stripL_app, Nat.reduceEqDiff, if_false, if_true, reduceIte, List.contains_nil, List.contains_cons, Nat.reduceBEq, Bool.or_false, Bool.false_eq_true, Bool.or_true]) <;> rfl) | rfl) (hs : stripS d σ = σ1 := by first | ((try simp only [stripF_cons, stripF_nil, stripS_cons, stripS_nil, stripV, plainV, List.all_cons, List.all_nil, Bool.and_self, stripC, stripO, stripA, stripL_nil, stripL_cons, stripL_d, stripL_app, Nat.reduceEqDiff, if_false, if_true, reduceIte, List.contains_nil, List.contains_cons, Nat.reduceBEq, Bool.or_false, Bool.false_eq_true, Bool.or_true]) <;> rfl) | rfl) : RL (cx nt w0 S0) ops (o :: rest) fr σ Q :=
  RL_bxO (X := cx nt w0 S0) hw hdst hd ho hx hfree hone (hf ▸ hs ▸ h)
theorem uNilO (k key j : Nat) (e : TypeId) (sz : Nat) {ty : TypeId} {cs cs' : List C} {y : Value} {l : List Oper} (h : RL (cx nt w0 S0) ops l fr1 ((k, .obj ty cs') :: (key, .tok e sz) :: σ1) Q) (hk : look σ k = some (.obj ty cs) := by rfl) (hj : cs[j]? = some (.d (.v y)) := by rfl) (hy : isNil y = true := by rfl) (hne : Nat.beq k key = false := by rfl)
    (hf : stripF key fr = fr1 := by first | ((try simp only [stripF_cons, stripF_nil, stripS_cons, stripS_nil, stripV, plainV, List.all_cons, List.all_nil, Bool.and_self, stripC, stripO, stripA, stripL_nil, stripL_cons, stripL_d, stripL_app, Nat.reduceEqDiff, if_false, if_true, reduceIte, List.contains_nil, List.contains_cons, Nat.reduceBEq, Bool.or_false, Bool.false_eq_true, Bool.or_true]) <;> rfl) | rfl) (hs : stripS key σ = σ1 := by first | ((try simp only [stripF_cons, stripF_nil, stripS_cons, stripS_nil, stripV, plainV, List.all_cons, List.all_nil, Bool.and_self, stripC, stripO, stripA, stripL_nil, stripL_cons, stripL_d, stripL_app, Nat.reduceEqDiff, if_false, if_true, reduceIte, List.contains_nil, List.contains_cons, Nat.reduceBEq, Bool.or_false, Bool.false_eq_true, Bool.or_true]) <;> rfl) | rfl) (hc : (stripL key cs).set j (.own key []) = cs' := by first | ((try simp only [stripL_cons, stripL_nil, stripA, stripC, Nat.reduceEqDiff, if_false, if_true, reduceIte, List.set_cons_zero, List.set_cons_succ]) <;> rfl) | rfl) : RL (cx nt w0 S0) ops l fr σ Q :=
  RL_nilO (X := cx nt w0 S0) k key j (fun e => by subst e; rw [Nat.beq_refl] at hne; cases hne) hk hj hy (hf ▸ hs ▸ hc ▸ h)
theorem uNp {x : Operand} {off : Nat} (h : RL (cx nt w0 S0) ops rest ((d, .one (.po k off)) :: fr) σ Q) (ho : o.op = .nilCheck x := by rfl) (hw : wantA ops o fr = some true := by rfl) (hdst : o.dst = some d := by rfl) (hd : Nat.blt d nt = true := by rfl) (hx : ev fr x = some (.one (.po k off)) := by rfl) : RL (cx nt w0 S0) ops (o :: rest) fr σ Q :=
  RL_nc (X := cx nt w0 S0) hw hdst hd ho hx h
theorem mNp {x : Operand} {off : Nat} (h : DSeq (cx nt w0 S0) ops τ0 σB QD (j0 + 1) K C0 rest ((d, .one (.po k off)) :: fr)) (ho : o.op = .nilCheck x := by rfl) (hdst : o.dst = some d := by rfl) (hd : Nat.blt d nt = true := by rfl) (hw : wantA ops o (restr ops o fr) = some true := by rfl) (hx : ev (restr ops o fr) x = some (.one (.po k off)) := by rfl) (hm : MenOk o K (.one (.po k off)) := by (repeat (first | exact men_nil _ _ | refine men_cons (by first | exact Or.inl rfl | exact Or.inr rfl) ?_))) : DSeq (cx nt w0 S0) ops τ0 σB QD j0 K C0 (o :: rest) fr :=
  D_nc (X := cx nt w0 S0) hdst hd hw ho hx hm h
/-- a region whose order is open, its last operation a store, with slices of one's own that it may append to -/
theorem uAnyLT (τ0 σB : Obs) {id : Nat} {l l1 : List Oper} (hs1 : ∀ p ∈ τ0, look σ p.1 = some p.2) (hs2 : Sub σB σ) (h : DSeq (cx nt w0 S0) l1.toArray τ0 σB (fun fr σ => RL (cx nt w0 S0) l1.toArray [o] fr σ (QQ .normal)) 0 [] [] l fr) (hl : splitLast l1 = some (l, o) := by rfl) (_hst : isStore o = true := by rfl) (hok : lastOk l o = true := by kernel_rfl) : W (cx nt w0 S0) (.region id l1.toArray true) fr σ QQ := by
  have e := splitLast_eq hl
  subst e
  exact W_any_last (X := cx nt w0 S0) mixed_ τ0 σB hok hs1 hs2 h
end
end Go.Proofs.YtjhkehloipmjfaaGreat
