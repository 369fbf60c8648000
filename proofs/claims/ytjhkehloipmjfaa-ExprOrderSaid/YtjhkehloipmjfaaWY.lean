/- Drawn regions that end in a store; new variables in them. -/
import Derived.Test.YtjhkehloipmjfaaWX
import Derived.Test.YtjhkehloipmjfaaWL
namespace Go.Proofs.Ytjhkehloipmjfaa
open Go.RowKit
def splitLast : List Oper → Option (List Oper × Oper)
  | [] => none
  | o :: l => match splitLast l with
    | some (m, p) => some (o :: m, p)
    | none => some ([], o)
theorem splitLast_none : ∀ {l : List Oper}, splitLast l = none → l = []
  | [], _ => rfl
  | o :: l, h => by
    unfold splitLast at h
    split at h <;> cases h
theorem splitLast_eq : ∀ {l m : List Oper} {o : Oper}, splitLast l = some (m, o) → l = m ++ [o]
  | [], _, _, h => by cases h
  | p :: l, m, o, h => by
    unfold splitLast at h
    split at h
    · rename_i m' p' h1
      injection h with h
      injection h with h2 h3
      subst h2; subst h3
      rw [splitLast_eq h1]; rfl
    · rename_i h1
      injection h with h
      injection h with h2 h3
      subst h2; subst h3
      rw [splitLast_none h1]; rfl
def isStore (o : Oper) : Bool := match o.op with | .store _ _ _ => true | _ => false
section
variable {X : Ctx} {fr fr1 : Fr} {σ σ1 : Obs} {o : Oper} {ops : Array Oper} {rest : List Oper} {d j : Nat} {t : TypeId} {i : TyI} {x : VV} {τ0 σB : Obs} {K : List Cr} {C : Cons} {QD : Fr → Obs → Prop}
theorem D_alc (hT : Good X) (hdst : o.dst = some d) (hd : Nat.blt d X.nt = true) (hw : wantA ops o (restr ops o fr) = some true) (ho : o.op = .alloc t) (hi : X.Ty t = some i) (ha : i.agg = true) (hm : MenOk o K (.one (.po d 0))) (hf : FreeF d fr) (hs : FreeS d σB) (ht : FreeS d τ0)
    (h : DSeq X ops τ0 σB QD (j + 1) (⟨d, j, .box t (i.zero.map zc)⟩ :: K) C rest ((d, .one (.po d 0)) :: fr)) : DSeq X ops τ0 σB QD j K C (o :: rest) fr :=
  ⟨.one (.po d 0), .alc t (i.zero.map zc), ⟨by rw [hdst]; exact hd, hm, ⟨hw, d, hdst, rfl, fun γ T S w a hr => by
    have hk := hT t i hi
    obtain ⟨inf, d0, h1, h2, h3, h4, h5, h6, _⟩ := hk.get
    refine .inl ⟨_, _, ?_, i.zero, rfl, rfl, RDL.zcs hk.z1⟩
    simp only [execOp, ho, Instr.alloc, Sem.run_bind, run_zero h1 h5, ha, if_true, Result.andThen_ok, run_newVar, Value.cells, Sem.run_pure]⟩, fun d' h' _ => by
    rw [hdst] at h'; injection h' with h'; subst h'; exact ⟨hf, hs, fun p hp => ht p hp⟩, fun k e sz h => (by cases h), fun k ob ob' h => (by cases h)⟩, by rw [hdst]; exact h⟩
/-- a struct is written where it lies -/
theorem D_st (hT : Good X) {k : Nat} {ty : TypeId} {p xx : Operand} {cs ds : List D} (hdst : o.dst = none) (hw : wantA ops o (restr ops o fr) = some true) (ho : o.op = .store t p xx) (hp : ev (restr ops o fr) p = some (.one (.po k 0))) (hx : ev (restr ops o fr) xx = some (.dat ds)) (hi : X.Ty t = some i) (hl : ds.length = i.size) (hl2 : cs.length = i.size)
    (hkC : hasC C k = false) (hkB : look σB k = none) (hsrc : (k, Ob.box ty cs) ∈ τ0 ∨ ∃ c ∈ K, c.d = k ∧ c.ob = .box ty cs ∧ onO o c.i = true) (h : DSeq X ops τ0 σB QD (j + 1) K ((k, some (.box ty ds)) :: C) rest fr) : DSeq X ops τ0 σB QD j K C (o :: rest) fr :=
  ⟨.junk, .chg k (.box ty cs) (.box ty ds), ⟨by rw [hdst]; rfl, fun _ _ => .inr rfl, ⟨hw, rfl, rfl, fun _ => rfl, fun γ T S w a hr => by
    obtain ⟨us, g1, g2, g3, g4⟩ := hr.st.obj k (.box ty cs) (by simp [look])
    obtain ⟨inf, d0, h1, h2, h3, _⟩ := (hT t i hi).get
    have hpv := ev_sound hr hp
    have hv := cellsV_sound (show cellsV (.dat ds) = some ds from rfl) (ev_sound hr hx)
    cases hpv with
    | one hpv =>
      have hpv : a.eval p = .pointer (some ⟨γ k, 0, none⟩) := hpv
      have hlen : (a.eval xx).cells.toList.length = i.size := by rw [hv.1]; exact hl
      have hst : (storeVar t ⟨γ k, 0, none⟩ (a.eval xx)).run X.P w = .ok () (w.setRow (γ k) (us.take 0 ++ (a.eval xx).cells.toList ++ us.drop (0 + (a.eval xx).cells.toList.length)).toArray) := by
        have := run_storeCells_at X.P (γ k) 0 ty (a.eval xx).cells.toList 0 us.toArray w g1 (by rw [hlen]; simp [g2.1]; omega) hv.all1
        simp only [Nat.add_zero] at this
        have hsz : (a.eval xx).cells.size = inf.size := by rw [h3, ← hlen]; simp
        simp only [storeVar, Sem.run_bind, run_size h1, Result.andThen_ok, hsz, ne_eq, not_true, if_false, this]
      refine .inr ⟨w.setRow (γ k) (us.take 0 ++ (a.eval xx).cells.toList ++ us.drop (0 + (a.eval xx).cells.toList.length)).toArray, ?_, onlyAt_row w _ _, ⟨us.take 0 ++ (a.eval xx).cells.toList ++ us.drop (0 + (a.eval xx).cells.toList.length), setRow_heap w _ _ _ _ _ g1, ?_, g3, g4⟩, .junk _⟩
      · simp only [execOp, ho, hpv, Instr.storeAt, Instr.sureAddr, Sem.run_bind, Sem.run_pure, Result.andThen_ok, hst]
      · have hk : Kp S w (w.setRow (γ k) (us.take 0 ++ (a.eval xx).cells.toList ++ us.drop (0 + (a.eval xx).cells.toList.length)).toArray) := .row _ g3
        have h5 := (splice_RDL (off := 0) g2 hv (by omega)).mono (fun _ _ hs => hs) hk
        rw [splice_whole (hl.trans hl2.symm)] at h5
        exact h5⟩, fun d' h' _ => (by rw [hdst] at h'; cases h'), fun k e sz h => (by cases h), fun k' ob ob' h' => by
        injection h' with a1 a2 a3; subst a1; subst a2; subst a3; exact ⟨hkC, hkB, hsrc⟩⟩, by rw [hdst]; exact h⟩
end
section
variable {X : Ctx} {fr fr1 : Fr} {σ σ1 : Obs} {o : Oper} {ops : Array Oper} {rest : List Oper} {Q : Fr → Obs → Prop}
/-- append to a slice of its own; it keeps its key -/
theorem RL_appendk (hT : Good X) {s x : Operand} {t e : TypeId} {k d sz : Nat} {i ie : TyI} {rows news rows' : List (List D)} (hw : wantA ops o fr = some true) (hdst : o.dst = some d) (hd : Nat.blt d X.nt = true) (ho : o.op = .call { callee := .builtin .append, args := #[s, x], argTypes := #[t, t] })
    (hs : ev fr s = some (.one (.own k rows))) (hk : look σ k = some (.tok e sz)) (hx : (ev fr x).bind rowsV = some news) (hi : X.Ty t = some i) (hit : i.tag = 2) (hie : i.elem = e) (he : X.Ty e = some ie) (hsz : ie.size = sz)
    (h1 : sized sz rows = true) (h2 : sized sz news = true) (hbd : (rows.length + news.length) * ie.bytes ≤ 140737488355328) (hr' : rows ++ news = rows')
    (h : RL X ops rest ((d, .one (.own k rows')) :: stripF k fr) ((k, .tok e sz) :: stripS k ((k, .junk) :: σ)) Q) : RL X ops (o :: rest) fr σ Q :=
  ⟨fun γ T S w a K hr hkk => wpList_step fun K' hK => by
    subst hr'
    rw [if_pos (wantA_sound hr hw)]
    have hv := ev_sound hr hs
    cases hv with
    | one hv =>
      obtain ⟨xv, hx1, hx2⟩ := Option.bind_eq_some_iff.1 hx
      obtain ⟨v', w', S', r1, q1, q2⟩ := append_sem (ty := o.type) (d := k) hT hr hk hv (rowsV_sound hx2 (ev_sound hr hx1)) hi hit hie he hsz h1 h2 hbd
      have q3 := h.out γ _ S' w' _ K (q1.put (dst := some d) (show inF X.nt (some d) = true from hd) q2) hkk
      unfold Oper.wp
      rw [exec_append ho r1]
      rw [← hdst] at q3
      exact hK _ _ q3⟩
end
section
variable {w0 : W0} {S0 : Nat → Nat → Prop} {nt : Nat} {fr fr1 : Fr} {σ σ1 : Obs} {o : Oper} {ops : Array Oper} {rest : List Oper} {d j : Nat} {t : TypeId} {i : TyI} {τ0 σB : Obs} {K : List Cr} {C : Cons} {QD : Fr → Obs → Prop} {cs : List D}
theorem uAnyL {id : Nat} {l l1 : List Oper} {QQ : Exit → Fr → Obs → Prop} (h : DSeq (cx nt w0 S0) l1.toArray [] σ (fun fr σ => RL (cx nt w0 S0) l1.toArray [o] fr σ (QQ .normal)) 0 [] [] l fr) (hl : splitLast l1 = some (l, o) := by rfl) (_hst : isStore o = true := by rfl) (hok : lastOk l o = true := by kernel_rfl) : W (cx nt w0 S0) (.region id l1.toArray true) fr σ QQ := by
  have e := splitLast_eq hl
  subst e
  exact W_any_last (X := cx nt w0 S0) mixed_ [] σ hok (fun p hp => by cases hp) (fun _ _ h => h) h
theorem uAk {Q : Fr → Obs → Prop} {k sz : Nat} {rows news rows' : List (List D)} {e : TyI} {s xx : Operand} {el : TypeId} (h : RL (cx nt w0 S0) ops rest ((d, .one (.own k rows')) :: fr1) ((k, .tok el sz) :: σ1) Q) (ho : o.op = .call { callee := .builtin .append, args := #[s, xx], argTypes := #[t, t] } := by rfl) (hdst : o.dst = some d := by rfl) (hd : Nat.blt d nt = true := by rfl) (hw : wantA ops o fr = some true := by rfl)
    (hs : ev fr s = some (.one (.own k rows)) := by rfl) (hk : look σ k = some (.tok el sz) := by rfl) (hx : (ev fr xx).bind rowsV = some news := by rfl) (hi : Ty t = some i := by rfl) (hit : i.tag = 2 := by rfl) (hie : i.elem = el := by rfl) (he : Ty el = some e := by rfl) (hsz : e.size = sz := by rfl)
    (h1 : sized sz rows = true := by first | rfl | exact sized_E _ | exact sized_S _ | exact sized_P _ | assumption | exact sized_take _ (sized_S _) | exact sized_drop _ (sized_S _) | exact sized_app (by assumption) rfl | exact sized_app (sized_app rfl (sized_S _)) rfl | exact sized_app rfl (sized_S _) | (simp only [sized, List.all_append, List.all_cons, List.all_nil, List.all_map, Bool.and_true, Bool.and_self, encE_len]; rfl) | (simp [sized, encE_len, encS]; done) | simp [sized, encP_len]) (h2 : sized sz news = true := by first | rfl | exact sized_E _ | exact sized_S _ | exact sized_P _ | assumption | exact sized_take _ (sized_S _) | exact sized_drop _ (sized_S _) | exact sized_app (by assumption) rfl | exact sized_app (sized_app rfl (sized_S _)) rfl | exact sized_app rfl (sized_S _) | (simp only [sized, List.all_append, List.all_cons, List.all_nil, List.all_map, Bool.and_true, Bool.and_self, encE_len]; rfl) | (simp [sized, encE_len, encS]; done) | simp [sized, encP_len]) (hbd : (rows.length + news.length) * e.bytes ≤ 140737488355328 := by first | decide | (simp only [List.length_map, List.length_append, List.length_take, List.length_drop, List.length_cons, List.length_nil]; omega)) (hr' : rows ++ news = rows' := by first | assumption | rfl)
    (hf : stripF k fr = fr1 := by first | ((try simp only [stripF_cons, stripF_nil, stripS_cons, stripS_nil, stripV, plainV, List.all_cons, List.all_nil, Bool.and_self, stripC, stripO, stripA, stripL_nil, stripL_cons, stripL_d, stripL_app, Nat.reduceEqDiff, if_false, if_true, reduceIte, List.contains_nil, List.contains_cons, Nat.reduceBEq, Bool.or_false, Bool.false_eq_true, Bool.or_true]) <;> rfl) | rfl) (hσ : stripS k ((k, .junk) :: σ) = σ1 := by first | ((try simp only [stripF_cons, stripF_nil, stripS_cons, stripS_nil, stripV, plainV, List.all_cons, List.all_nil, Bool.and_self, stripC, stripO, stripA, stripL_nil, stripL_cons, stripL_d, stripL_app, Nat.reduceEqDiff, if_false, if_true, reduceIte, List.contains_nil, List.contains_cons, Nat.reduceBEq, Bool.or_false, Bool.false_eq_true, Bool.or_true]) <;> rfl) | rfl) : RL (cx nt w0 S0) ops (o :: rest) fr σ Q :=
  RL_appendk (X := cx nt w0 S0) ty_ok hw hdst hd ho hs hk hx hi hit hie he hsz h1 h2 hbd hr' (hf ▸ hσ ▸ h)
theorem mAl (h : DSeq (cx nt w0 S0) ops τ0 σB QD (j + 1) (⟨d, j, .box t cs⟩ :: K) C rest ((d, .one (.po d 0)) :: fr)) (ho : o.op = .alloc t := by rfl) (hdst : o.dst = some d := by rfl) (hd : Nat.blt d nt = true := by rfl) (hw : wantA ops o (restr ops o fr) = some true := by rfl) (hi : Ty t = some i := by rfl) (ha : i.agg = true := by rfl)
    (hcs : i.zero.map zc = cs := by first | ((try simp only [zc, isNil, List.map_cons, List.map_nil, Bool.false_eq_true, if_false, if_true, reduceIte]) <;> rfl) | rfl) (hm : MenOk o K (.one (.po d 0)) := by (repeat (first | exact men_nil _ _ | refine men_cons (by first | exact Or.inl rfl | exact Or.inr rfl) ?_))) (hf : FreeF d fr := by (repeat (first | exact freeF_nil _ | refine freeF_cons (by rfl) ?_))) (hs : FreeS d σB := by (repeat (first | exact freeS_nil _ | refine freeS_cons (by rfl) (by rfl) ?_))) (ht : FreeS d τ0 := by (repeat (first | exact freeS_nil _ | refine freeS_cons (by rfl) (by rfl) ?_))) : DSeq (cx nt w0 S0) ops τ0 σB QD j K C (o :: rest) fr :=
  D_alc (X := cx nt w0 S0) ty_ok hdst hd hw ho hi ha hm hf hs ht (by rw [hcs]; exact h)
theorem mSt {k : Nat} {ty : TypeId} {p xx : Operand} {cs ds : List D} (h : DSeq (cx nt w0 S0) ops τ0 σB QD (j + 1) K ((k, some (.box ty ds)) :: C) rest fr) (ho : o.op = .store t p xx := by rfl) (hdst : o.dst = none := by rfl) (hw : wantA ops o (restr ops o fr) = some true := by rfl) (hp : ev (restr ops o fr) p = some (.one (.po k 0)) := by rfl)
    (hsrc : (k, Ob.box ty cs) ∈ τ0 ∨ ∃ c ∈ K, c.d = k ∧ c.ob = .box ty cs ∧ onO o c.i = true := by first | exact .inr ⟨_, List.mem_cons_self, rfl, rfl, rfl⟩ | exact .inr ⟨_, List.mem_cons_of_mem _ List.mem_cons_self, rfl, rfl, rfl⟩ | exact .inr ⟨_, List.mem_cons_of_mem _ (List.mem_cons_of_mem _ List.mem_cons_self), rfl, rfl, rfl⟩ | exact .inl List.mem_cons_self | exact .inl (List.mem_cons_of_mem _ List.mem_cons_self)) (hx : ev (restr ops o fr) xx = some (.dat ds) := by rfl) (hi : Ty t = some i := by rfl) (hl : ds.length = i.size := by rfl) (hl2 : cs.length = i.size := by rfl) (hkC : hasC C k = false := by rfl) (hkB : look σB k = none := by rfl) : DSeq (cx nt w0 S0) ops τ0 σB QD j K C (o :: rest) fr :=
  D_st (X := cx nt w0 S0) ty_ok hdst hw ho hp hx hi hl hl2 hkC hkB hsrc h
end
end Go.Proofs.Ytjhkehloipmjfaa
