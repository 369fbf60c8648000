/- The other operations, one by one. -/
import Derived.Test.YtjhkehloipmjfaaW3
namespace Go.Proofs.Ytjhkehloipmjfaa
open Go.RowKit
section
variable {X : Ctx} {γ γ' : Nat → Nat} {T T' : Nat → Value} {S S' : Nat → Nat → Prop} {w w' : World} {fr : Fr} {σ : Obs} {a : Act} {o : Oper}
theorem sound_move {x : Operand} {r : Out} (ho : o.op = .move x) (h : aop X o fr σ = some r) : PureS X o fr σ r := by
  unfold aop at h
  simp only [ho, Option.map_eq_some_iff] at h
  obtain ⟨v, hv, rfl⟩ := h
  exact sound_pure fun γ T S w a hr => ⟨_, by simp only [execOp, ho, Sem.run_pure], ev_sound hr hv⟩
theorem sound_assign {x : Operand} {r : Out} (ho : o.op = .assign x) (h : aop X o fr σ = some r) : PureS X o fr σ r := by
  unfold aop at h
  simp only [ho, Option.map_eq_some_iff] at h
  obtain ⟨v, hv, rfl⟩ := h
  exact sound_pure fun γ T S w a hr => ⟨_, by simp only [execOp, ho, Sem.run_pure], ev_sound hr hv⟩
theorem sound_pick {c x y : Operand} {r : Out} (ho : o.op = .pick c x y) (h : aop X o fr σ = some r) : PureS X o fr σ r := by
  unfold aop at h
  simp only [ho] at h
  split at h
  · rename_i hc
    simp only [Option.map_eq_some_iff] at h
    obtain ⟨v, hv, rfl⟩ := h
    refine sound_pure fun γ T S w a hr => ⟨_, ?_, ev_sound hr hv⟩
    have e := val_sound (ev_sound hr hc)
    simp only [execOp, ho, e, asBool, Sem.run_bind, Sem.run_pure, Result.andThen_ok, if_true]
  · rename_i hc
    simp only [Option.map_eq_some_iff] at h
    obtain ⟨v, hv, rfl⟩ := h
    refine sound_pure fun γ T S w a hr => ⟨_, ?_, ev_sound hr hv⟩
    have e := val_sound (ev_sound hr hc)
    simp only [execOp, ho, e, asBool, Sem.run_bind, Sem.run_pure, Result.andThen_ok, Bool.false_eq_true, if_false]
  · cases h
theorem new_one (h : Rel X γ T S w fr σ a) (b : Nat) (hb : w.heap.size ≤ b) : (∀ o, ¬ S b o) ∧ ¬ X.N b :=
  ⟨fun o hs => by have := h.st.lt b o hs; omega, fun hN => by have := h.st.nlt b hN; have := h.st.keep.size; omega⟩
theorem Rel.alloc_box (k : Nat) (h : Rel X γ T S w fr σ a) (us : List Value) (ty : TypeId) {cs : List D} (hr : RDL S w cs us) :
    Rel X (setK γ k w.heap.size) T S (w.alloc (.cells us.toArray ty)) (stripF k fr) ((k, .box ty cs) :: stripS k σ) a :=
  h.alloc k us ty (.box ty cs) (fun γ' _ hg => ⟨us, by rw [hg]; exact heap_alloc_new w _, hr.mono (fun _ _ hs => hs) (.of_below h.st.lt (below_alloc _ _)), by rw [hg]; exact new_one h _ (Nat.le_refl _)⟩) (fun _ _ hb => hb)
theorem Rel.alloc_cell (k : Nat) (hlow : k < X.nt) (h : Rel X γ T S w fr σ a) (u : Value) (ty : TypeId) {c : C} (h1 : u.oneCell' = true) (hr : ∀ γ', (∀ j, j ≠ k → γ' j = γ j) → RC γ' T S w c u) :
    Rel X (setK γ k w.heap.size) T S (w.alloc (.cells #[u] ty)) (stripF k fr) ((k, .cell ty c) :: stripS k σ) a :=
  h.alloc k [u] ty (.cell ty c) (fun γ' hne hg => ⟨u, by rw [hg]; exact heap_alloc_new w _, (hr γ' hne).mono (fun _ _ hs => hs) (.of_below h.st.lt (below_alloc _ _)), h1, by rw [hg]; exact (new_one h _ (Nat.le_refl _)).1, by rw [hg]; exact (new_one h _ (Nat.le_refl _)).2, fun b hb => (by rw [X.low k hlow] at hb; cases hb)⟩) (fun _ _ hb => hb)
theorem run_newVar (P : Program) (w : World) (t : TypeId) (v : Value) : (newVar t v).run P w = .ok ⟨w.heap.size, 0, none⟩ (w.alloc (.cells v.cells t)) := by
  simp only [newVar, newRow, newObj, Sem.run_bind, Sem.run, Result.andThen_ok, Sem.run_pure]; rfl
theorem sound_alloc (hT : ∀ t i, X.Ty t = some i → TyOK X.P t i) {t : TypeId} {r : Out} (ho : o.op = .alloc t) (h : aop X o fr σ = some r) : Sound X o fr σ r := by
  unfold aop at h
  simp only [ho] at h
  split at h
  · rename_i k i hk hi
    split at h
    rotate_left
    · cases h
    rename_i hlow
    injection h with h; subst h
    have hok := hT t i hi
    obtain ⟨inf, d, h1, h2, h3, h4, h5, h6, _⟩ := hok.get
    intro γ T S w a hr
    by_cases ha : i.agg = true
    · rw [if_pos ha] at h5
      simp only [newOb, if_pos ha]
      refine ⟨_, T, S, _, .pointer (some ⟨w.heap.size, 0, none⟩), .inl ?_, hr.alloc_box k i.zero t (RDL.zcs hok.z1), .one (by simp only [RC, setK_at])⟩
      simp only [execOp, ho, Instr.alloc, Sem.run_bind, run_zero h1 h5, Result.andThen_ok, run_newVar, Sem.run_pure, Value.cells]
    · rw [if_neg ha] at h5
      simp only [newOb, if_neg ha]
      have hne : i.zero ≠ [] := fun e => by have := hok.pos; have := hok.zlen; rw [e] at this; simp at this; omega
      have h1c : (i.zero.headD undef).oneCell' = true := by
        cases hz : i.zero with
        | nil => exact absurd hz hne
        | cons u us => have := hok.z1; rw [hz] at this; simp only [List.all_cons, Bool.and_eq_true] at this; exact this.1
      refine ⟨_, T, S, _, .pointer (some ⟨w.heap.size, 0, none⟩), .inl ?_, hr.alloc_cell k (by rcases hlow with h | h; exact absurd h ha; exact (Nat.blt_eq ▸ h)) (i.zero.headD undef) t h1c (fun _ _ => .v _ h1c), .one (by simp only [RC, setK_at])⟩
      simp only [execOp, ho, Instr.alloc, Sem.run_bind, run_zero h1 h5, Result.andThen_ok, run_newVar, Sem.run_pure, cells1v h1c]
  · cases h
theorem ev_strip (h : Rel X γ T S w fr σ a) {k : Nat} {x : Operand} {v : VV} (hv : ev (stripF k fr) x = some v) (hg : ∀ j, j ≠ k → γ' j = γ j) (hT : ∀ j, j ≠ k → T' j = T j) : RV γ' T' S w v (a.eval x) :=
  ev_sound (h.upd k hg hT) hv
theorem sound_box {t : TypeId} {x : Operand} {r : Out} (ho : o.op = .box t x) (h : aop X o fr σ = some r) : Sound X o fr σ r := by
  unfold aop at h
  simp only [ho] at h
  split at h
  · rename_i k i hk hi
    split at h
    · rename_i cs _ hx
      split at h
      · injection h with h; subst h
        intro γ T S w a hr
        have hv := ev_strip (γ' := γ) (T' := T) hr hx (fun _ _ => rfl) (fun _ _ => rfl)
        generalize he : a.eval x = v at hv
        cases hv with
        | @dat _ us hv =>
          refine ⟨_, T, S, _, .pointer (some ⟨w.heap.size, 0, none⟩), .inl ?_, hr.alloc_box k us t hv, .one (by simp only [RC, setK_at])⟩
          simp only [execOp, ho, he, Instr.box, Sem.run_bind, Result.andThen_ok, run_newVar, Sem.run_pure, Value.cells]
      · cases h
    · rename_i c _ hx
      split at h
      rotate_left
      · cases h
      rename_i hlow
      injection h with h; subst h
      intro γ T S w a hr
      have hv := ev_strip (γ' := γ) (T' := T) hr hx (fun _ _ => rfl) (fun _ _ => rfl)
      generalize he : a.eval x = v at hv
      cases hv with
      | one hv =>
        refine ⟨_, T, S, _, .pointer (some ⟨w.heap.size, 0, none⟩), .inl ?_, hr.alloc_cell k (Nat.blt_eq ▸ hlow) v t (RC.one hv) (fun γ' hg => ?_), .one (by simp only [RC, setK_at])⟩
        · simp only [execOp, ho, he, Instr.box, Sem.run_bind, Result.andThen_ok, run_newVar, Sem.run_pure, cells1v (RC.one hv)]
        · have hv2 := ev_strip (γ' := γ') (T' := T) hr hx hg (fun _ _ => rfl)
          rw [he] at hv2
          cases hv2 with | one hv2 => exact hv2
    · cases h
  · cases h
theorem run_concat (P : Program) (w : World) (t : TypeId) (x y : ByteArray) (h : x.size + y.size ≤ 9223372036854775807) : (binOp .add t (.string x) (.string y)).run P w = .ok (.string (x ++ y)) w := by
  have hmax : IntKind.i64.max = 9223372036854775807 := by decide
  have hn : ¬ (((x.size + y.size : Nat) : Int) > IntKind.i64.max) := by rw [hmax]; omega
  simp only [binOp, Op.stringOp]
  rw [if_neg hn]
  rfl
theorem sound_bin (hT : ∀ t i, X.Ty t = some i → TyOK X.P t i) {op : BinOp} {t t' : TypeId} {x y : Operand} {r : Out} (ho : o.op = .binOp op t x y t') (h : aop X o fr σ = some r) : PureS X o fr σ r := by
  unfold aop at h
  simp only [ho] at h
  have hbt : isTag 5 (X.Ty t) = true → X.P.underlying t = some .bool := by
    intro hb
    unfold isTag at hb
    split at hb
    · rename_i i hi
      obtain ⟨inf, d, h1, h2, _, _, _, _, _, _, _, h11⟩ := (hT t i hi).get
      have h5 : tagOf d = 5 := by rw [h11]; exact Nat.eq_of_beq_eq_true hb
      cases d <;> first | exact h2 | (simp [tagOf] at h5)
    · cases hb
  split at h
  · rename_i u v hx hy
    simp only [Option.map_eq_some_iff] at h
    obtain ⟨z, hz, rfl⟩ := h
    refine sound_pure fun γ T S w a hr => ?_
    have e1 := val_sound (ev_sound hr hx)
    have e2 := val_sound (ev_sound hr hy)
    refine ⟨z, ?_, .one (.v _ ?_)⟩
    · simp only [execOp, ho, e1, e2]
      unfold abin at hz
      split at hz <;> first
        | (cases hz; done)
        | (injection hz with hz; subst hz; simp [eqGuard, binOp, Op.stringOp]; done)
        | (split at hz
           · rename_i hc
             injection hz with hz; subst hz
             first
             | (subst hc; simp [eqGuard, binOp, Op.intArith, Op.intCmp, Op.intBits, Op.floatCmp, Op.floatEq]; done)
             | (subst hc; simp [eqGuard, binOp, Op.floatCmp, Op.floatEq, bne]; done)
             | (subst hc; simp [eqGuard, binOp, Op.floatCmp, Op.floatEq]; rfl)
             | (obtain ⟨rfl, hc⟩ := hc; simp [eqGuard, binOp, Op.intDiv, hc]; done)
             | (simp [eqGuard, binOp, Op.shift, Int.not_lt.2 hc]; done)
             | (simp [eqGuard, run_eql_bool w t _ _ (hbt hc)]; done)
             | (simp [eqGuard, run_neq_bool w t _ _ (hbt hc)]; done)
             | (simp [eqGuard, run_concat X.P w t _ _ hc]; done)
           · cases hz)
    · unfold abin at hz
      split at hz <;> first
        | (cases hz; done)
        | (injection hz with hz; subst hz; rfl)
        | (split at hz
           · injection hz with hz; subst hz; rfl
           · cases hz)
  · cases h
theorem sound_un {op : UnOp} {t : TypeId} {x : Operand} {r : Out} (ho : o.op = .unOp op t x) (h : aop X o fr σ = some r) : PureS X o fr σ r := by
  unfold aop at h
  simp only [ho] at h
  split at h
  · rename_i u hx
    simp only [Option.map_eq_some_iff] at h
    obtain ⟨z, hz, rfl⟩ := h
    refine sound_pure fun γ T S w a hr => ?_
    have e1 := val_sound (ev_sound hr hx)
    refine ⟨z, ?_, .one (.v _ ?_)⟩
    · simp only [execOp, ho, e1]
      unfold aun at hz
      split at hz <;> first
        | (cases hz; done)
        | (injection hz with hz; subst hz; simp [Op.unary, Op.intArith]; done)
    · unfold aun at hz
      split at hz <;> first
        | (cases hz; done)
        | (injection hz with hz; subst hz; rfl)
  · cases h
theorem sound_convert (hT : ∀ t i, X.Ty t = some i → TyOK X.P t i) {s t : TypeId} {x : Operand} {r : Out} (ho : o.op = .convert s t x) (h : aop X o fr σ = some r) : PureS X o fr σ r := by
  unfold aop at h
  simp only [ho] at h
  split at h
  · rename_i i0 i k0 n hs hi hx
    split at h
    · rename_i k hk
      injection h with h; subst h
      refine sound_pure fun γ T S w a hr => ?_
      have e1 := val_sound (ev_sound hr hx)
      obtain ⟨inf, d, h1, h2, h3, h4, h5, h6, h7, h8, h10, _⟩ := (hT t i hi).get
      rw [hk] at h10
      obtain ⟨_, d', _, hd', _⟩ := (hT s i0 hs).get
      cases d with
      | int k' =>
        simp only [kindOf, Option.some.injEq] at h10
        subst h10
        exact ⟨_, by simp [execOp, ho, e1, convert, run_underlying hd', run_underlying h2, Conv.intToInt], .one (.v _ rfl)⟩
      | _ => cases h10
    · cases h
  · cases h
end
end Go.Proofs.Ytjhkehloipmjfaa
