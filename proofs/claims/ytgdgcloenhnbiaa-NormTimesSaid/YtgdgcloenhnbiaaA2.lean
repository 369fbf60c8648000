/- A region whose order is open, walked once, in the text's order: each operation yields one value in every world that meets S, or calls what yields one value and leaves S. -/
import Derived.Test.YtgdgcloenhnbiaaA1
namespace Go.Proofs.Ytgdgcloenhnbiaa
open Go.RowKit

section
variable {P : Program} {ops : Array Oper} {Q : Exit → Act → World → Prop} {S : World → Prop}

/-- One value in every world of S: at once, or by a call that leaves S. -/
def DetOp (P : Program) (S : World → Prop) (o : Oper) (ρ : Operand → Value) (v : Value) : Prop :=
  ∀ w, S w → (execOp ρ o).run P w = .ok (.value v) w ∨ ((execOp ρ o).run P w = .ok .skip w ∧ v = undef) ∨
    ∃ f args, (execOp ρ o).run P w = .ok (.enter f args) w ∧ Calls P f args w (fun e w' => e = .returned v ∧ S w')

/-- In the text's order. -/
def seqS (P : Program) (ops : Array Oper) (S : World → Prop) (Q : Exit → Act → World → Prop) : List Oper → Act → Prop
  | [], a => ∀ w, S w → Q .normal a w
  | o :: rest, a => ∃ v, ((Region.wanted o (yielded ops a.tmps) = true ∧ DetOp P S o a.eval v) ∨ (Region.wanted o (yielded ops a.tmps) = false ∧ v = undef)) ∧ seqS P ops S Q rest (a.put o.dst v)

theorem seq_nil {a : Act} (h : ∀ w, S w → Q .normal a w) : seqS P ops S Q [] a := h
theorem seq_val {o : Oper} {rest : List Oper} {a : Act} {v : Value} (hw : Region.wanted o (yielded ops a.tmps) = true) (hv : ∀ w, S w → (execOp a.eval o).run P w = .ok (.value v) w) (h : seqS P ops S Q rest (a.put o.dst v)) : seqS P ops S Q (o :: rest) a :=
  ⟨v, .inl ⟨hw, fun w hs => .inl (hv w hs)⟩, h⟩
theorem seq_off {o : Oper} {rest : List Oper} {a : Act} (hw : Region.wanted o (yielded ops a.tmps) = false) (h : seqS P ops S Q rest (a.put o.dst undef)) : seqS P ops S Q (o :: rest) a :=
  ⟨undef, .inr ⟨hw, rfl⟩, h⟩
theorem seq_call {o : Oper} {rest : List Oper} {a : Act} {v : Value} {f : FuncId} {args : Array Value} (hw : Region.wanted o (yielded ops a.tmps) = true) (hf : execOp a.eval o = callFunc f args) (he : ∀ (xs : Array Value) (w : World), (callFunc f xs).run P w = .ok (.enter f xs) w)
    (hv : ∀ w, S w → Calls P f args w (fun e w' => e = .returned v ∧ S w')) (h : seqS P ops S Q rest (a.put o.dst v)) : seqS P ops S Q (o :: rest) a :=
  ⟨v, .inl ⟨hw, fun w hs => .inr (.inr ⟨f, args, by rw [hf]; exact he _ _, hv w hs⟩)⟩, h⟩

theorem exec_call {o : Oper} {a : Act} {f : FuncId} {xs : Array Operand} {ats : Array TypeId} (ho : o.op = .call { callee := .value (.func f), args := xs, argTypes := ats }) : execOp a.eval o = callFunc f (xs.map a.eval) := by
  have h1 : execOp a.eval o = callFunc f (#[] ++ xs.map a.eval ++ #[]) := by
    obtain ⟨dst, op, type, pos, after, guard⟩ := o
    simp only at ho
    subst ho
    rfl
  rw [h1]; simp
theorem seq_call0 {o : Oper} {rest : List Oper} {a : Act} (v : Value) (f : FuncId) {ats : Array TypeId} (hw : Region.wanted o (yielded ops a.tmps) = true) (ho : o.op = .call { callee := .value (.func f), args := #[], argTypes := ats }) (he : ∀ (xs : Array Value) (w : World), (callFunc f xs).run P w = .ok (.enter f xs) w)
    (hv : ∀ w, S w → Calls P f #[] w (fun e w' => e = .returned v ∧ S w')) (h : seqS P ops S Q rest (a.put o.dst v)) : seqS P ops S Q (o :: rest) a :=
  seq_call hw (exec_call ho) he (by simpa using hv) h
theorem seq_call1 {o : Oper} {rest : List Oper} {a : Act} (v : Value) (f : FuncId) {ats : Array TypeId} {x1 : Operand} (v1 : Value) (hw : Region.wanted o (yielded ops a.tmps) = true) (ho : o.op = .call { callee := .value (.func f), args := #[x1], argTypes := ats }) (h1 : a.eval x1 = v1) (he : ∀ (xs : Array Value) (w : World), (callFunc f xs).run P w = .ok (.enter f xs) w)
    (hv : ∀ w, S w → Calls P f #[v1] w (fun e w' => e = .returned v ∧ S w')) (h : seqS P ops S Q rest (a.put o.dst v)) : seqS P ops S Q (o :: rest) a :=
  seq_call hw (exec_call ho) he (by simpa [h1] using hv) h
theorem seq_call2 {o : Oper} {rest : List Oper} {a : Act} (v : Value) (f : FuncId) {ats : Array TypeId} {x1 x2 : Operand} (v1 v2 : Value) (hw : Region.wanted o (yielded ops a.tmps) = true) (ho : o.op = .call { callee := .value (.func f), args := #[x1, x2], argTypes := ats }) (h1 : a.eval x1 = v1) (h2 : a.eval x2 = v2) (he : ∀ (xs : Array Value) (w : World), (callFunc f xs).run P w = .ok (.enter f xs) w)
    (hv : ∀ w, S w → Calls P f #[v1, v2] w (fun e w' => e = .returned v ∧ S w')) (h : seqS P ops S Q rest (a.put o.dst v)) : seqS P ops S Q (o :: rest) a :=
  seq_call hw (exec_call ho) he (by simpa [h1, h2] using hv) h

/-- who writes slot t -/
def wrOf (ops : Array Oper) (t : Tmp) : Option Nat := ops.toList.findIdx? (fun o => o.dst == some t)
def onOf (o : Oper) (j : Nat) : Bool := o.after.any fun e => Region.binds .any e && e.on == j
/-- each slot is written once; edges go back; whoever looks at a slot that is written here waits for the writer, or the writer for him; no select -/
def regionOk (ops : Array Oper) : Bool :=
  Region.noSelect ops && (List.range ops.size).all fun i => match ops[i]? with
    | none => false
    | some o => (match o.dst with | some t => wrOf ops t == some i | none => true) && (o.after.all fun e => decide (e.on < i)) &&
      (o.looksAt ops).all fun t => match wrOf ops t with
        | none => true
        | some j => onOf o j || (match ops[j]? with | some p => onOf p i | none => false)

theorem regionOk_at (h : regionOk ops = true) {i : Nat} {o : Oper} (ho : ops[i]? = some o) :
    (∀ t, o.dst = some t → wrOf ops t = some i) ∧ (∀ e ∈ o.after, e.on < i) ∧ (∀ t ∈ o.looksAt ops, ∀ j, wrOf ops t = some j → onOf o j = true ∨ ∃ p, ops[j]? = some p ∧ onOf p i = true) := by
  unfold regionOk at h
  rw [Bool.and_eq_true] at h
  have hlt : i < ops.size := (Array.getElem?_eq_some_iff.1 ho).1
  have h1 := List.all_eq_true.1 h.2 i (List.mem_range.2 hlt)
  rw [ho] at h1
  simp only [Bool.and_eq_true, List.all_eq_true, Array.all_eq_true_iff_forall_mem, decide_eq_true_eq] at h1
  obtain ⟨⟨h2, h3⟩, h4⟩ := h1
  refine ⟨fun t ht => ?_, h3, fun t ht j hj => ?_⟩
  · rw [ht] at h2; simpa using h2
  · have := h4 t ht
    rw [hj] at this
    simp only [Bool.or_eq_true] at this
    refine this.imp id fun h5 => ?_
    cases hp : ops[j]? with
    | none => rw [hp] at h5; cases h5
    | some p => rw [hp] at h5; exact ⟨p, rfl, h5⟩
theorem onOf_spec {o : Oper} {j : Nat} (h : onOf o j = true) : ∃ e ∈ o.after, Region.binds .any e = true ∧ e.on = j := by
  unfold onOf at h
  rw [Array.any_eq_true] at h
  obtain ⟨i, hi, h⟩ := h
  simp only [Bool.and_eq_true, beq_iff_eq] at h
  exact ⟨_, Array.getElem_mem hi, h.1, h.2⟩
theorem wrOf_dst {t : Tmp} {j : Nat} (h : wrOf ops t = some j) : ∃ o, ops[j]? = some o ∧ o.dst = some t := by
  unfold wrOf at h
  rw [List.findIdx?_eq_some_iff_getElem] at h
  obtain ⟨hj, h1, _⟩ := h
  exact ⟨ops[j]'(by simpa using hj), by rw [Array.getElem?_eq_getElem], by simpa using h1⟩

/-- The frame where L's operations have been carried out. -/
def FrameL (ops : Array Oper) (a0 : Act) (vs : Nat → Value) (L : Nat → Bool) (a : Act) : Prop :=
  a.defers = a0.defers ∧ a.tmps.size = a0.tmps.size ∧ ∀ t, a.tmps[t]? = match wrOf ops t with
    | some j => if L j = true then (if t < a0.tmps.size then some (vs j) else none) else a0.tmps[t]?
    | none => a0.tmps[t]?

theorem FrameL.put {a0 a : Act} {vs : Nat → Value} {L L' : Nat → Bool} (h : FrameL ops a0 vs L a) {i : Nat} {o : Oper} (hd : ∀ t, o.dst = some t → wrOf ops t = some i) (hL : ∀ j, L' j = true ↔ (j = i ∨ L j = true)) (hnd : o.dst = none → ∀ t, wrOf ops t ≠ some i) :
    FrameL ops a0 vs L' (a.put o.dst (vs i)) := by
  obtain ⟨h1, h2, h3⟩ := h
  cases hdst : o.dst with
  | none =>
    refine ⟨h1, h2, fun t => ?_⟩
    show a.tmps[t]? = _
    rw [h3 t]
    cases hw : wrOf ops t with
    | none => rfl
    | some j =>
      have hne : j ≠ i := fun e => hnd hdst t (by rw [hw, e])
      have : L j = true ↔ L' j = true := by rw [hL]; exact ⟨.inr, fun h => h.resolve_left hne⟩
      by_cases hl : L j = true
      · simp only [hl, this.1 hl]
      · simp only [hl, mt this.2 hl]
  | some d =>
    refine ⟨h1, by simpa [Act.put] using h2, fun t => ?_⟩
    show (a.tmps.setIfInBounds d (vs i))[t]? = _
    rw [Array.getElem?_setIfInBounds]
    by_cases hdt : d = t
    · subst hdt
      rw [if_pos rfl, hd d hdst]
      simp only [(hL i).2 (.inl rfl), if_true, h2]
    · rw [if_neg hdt, h3 t]
      cases hw : wrOf ops t with
      | none => rfl
      | some j =>
        have hne : j ≠ i := fun e => by
          obtain ⟨p, hp, hpd⟩ := wrOf_dst hw
          subst e
          obtain ⟨q, hq, hqd⟩ := wrOf_dst (hd d hdst)
          rw [hp] at hq
          injection hq with hq
          rw [hq, hqd] at hpd
          injection hpd with hpd
          exact hdt hpd
        have : L j = true ↔ L' j = true := by rw [hL]; exact ⟨.inr, fun h => h.resolve_left hne⟩
        by_cases hl : L j = true
        · simp only [hl, this.1 hl]
        · simp only [hl, mt this.2 hl]
theorem FrameL.eq {a0 a b : Act} {vs : Nat → Value} {L L' : Nat → Bool} (h : FrameL ops a0 vs L a) (k : FrameL ops a0 vs L' b) (hL : ∀ j o, ops[j]? = some o → L j = L' j) : a = b := by
  obtain ⟨h1, _, h3⟩ := h
  obtain ⟨k1, _, k3⟩ := k
  obtain ⟨ta, da⟩ := a
  obtain ⟨tb, db⟩ := b
  simp only at h1 h3 k1 k3
  have : ta = tb := Array.ext_getElem? fun t => by
    rw [h3 t, k3 t]
    cases hw : wrOf ops t with
    | none => rfl
    | some j =>
      obtain ⟨p, hp, _⟩ := wrOf_dst hw
      simp only [hL j p hp]
  rw [this, h1, k1]

/-- What the walk in the text's order has found: the values, and the frame ahead of each operation. -/
theorem seqS_vals : ∀ (l : List Oper) (k : Nat) (a : Act), seqS P ops S Q l a → ∃ (vs : Nat → Value) (fs : Nat → Act), fs k = a ∧ (∀ i o, l[i]? = some o → ((Region.wanted o (yielded ops (fs (k + i)).tmps) = true ∧ DetOp P S o (fs (k + i)).eval (vs (k + i))) ∨ (Region.wanted o (yielded ops (fs (k + i)).tmps) = false ∧ vs (k + i) = undef)) ∧ fs (k + i + 1) = (fs (k + i)).put o.dst (vs (k + i))) ∧ ∀ w, S w → Q .normal (fs (k + l.length)) w
  | [], k, a, h => ⟨fun _ => undef, fun _ => a, rfl, fun i o h => by simp at h, h⟩
  | o :: rest, k, a, ⟨v, hv, h⟩ => by
    obtain ⟨vs, fs, h0, hi, hq⟩ := seqS_vals rest (k + 1) _ h
    refine ⟨fun i => if i = k then v else vs i, fun i => if i = k then a else fs i, by simp, fun i p hp => ?_, fun w hw => ?_⟩
    · cases i with
      | zero =>
        simp only [List.getElem?_cons_zero, Option.some.injEq] at hp
        subst hp
        simp only [Nat.add_zero, if_true]
        refine ⟨hv, ?_⟩
        rw [if_neg (by omega), h0]
      | succ i =>
        simp only [List.getElem?_cons_succ] at hp
        have h2 := hi i p hp
        rw [show k + (i + 1) = k + 1 + i by omega]
        simp only [if_neg (show ¬ k + 1 + i = k by omega), if_neg (show ¬ k + 1 + i + 1 = k by omega)]
        exact h2
    · have := hq w hw
      rw [show k + 1 + rest.length = k + (o :: rest).length by simp; omega] at this
      simp only [if_neg (show ¬ k + (o :: rest).length = k by simp)]
      exact this

theorem region_all (hk : regionOk ops = true) (a0 : Act) (vs : Nat → Value) (fs : Nat → Act) (h0 : fs 0 = a0)
    (hs : ∀ i o, ops[i]? = some o → ((Region.wanted o (yielded ops (fs i).tmps) = true ∧ DetOp P S o (fs i).eval (vs i)) ∨ (Region.wanted o (yielded ops (fs i).tmps) = false ∧ vs i = undef)) ∧ fs (i + 1) = (fs i).put o.dst (vs i))
    (hq : ∀ w, S w → Q .normal (fs ops.size) w) : ∀ (fuel : Nat) (listed : Array Bool) (a : Act) (w : World), listed.size = ops.size → (∀ i o, ops[i]? = some o → listed.getD i true = true → ∀ e ∈ o.after, Region.binds .any e = true → listed.getD e.on false = true) →
      fuel = (listed.toList.filter (fun b => !b)).length → FrameL ops a0 vs (fun j => listed.getD j true) a → S w → wpAny P .any ops Q fuel listed a w := by
  have hseq : ∀ k, k ≤ ops.size → FrameL ops a0 vs (fun j => decide (j < k)) (fs k) := by
    intro k
    induction k with
    | zero => intro _; rw [h0]; exact ⟨rfl, rfl, fun t => by cases wrOf ops t <;> simp⟩
    | succ k ih =>
      intro hle
      have ho : ops[k]? = some ops[k] := Array.getElem?_eq_getElem (by omega)
      rw [(hs k _ ho).2]
      refine (ih (by omega)).put (regionOk_at hk ho).1 (fun j => by simp; omega) fun hn t ht => ?_
      obtain ⟨p, hp, hpd⟩ := wrOf_dst ht
      rw [ho] at hp
      injection hp with hp
      rw [← hp, hn] at hpd
      cases hpd
  have hsel := Region.noSelect_spec (ops := ops) (by unfold regionOk at hk; rw [Bool.and_eq_true] at hk; exact hk.1)
  -- all listed: the frame is the last one
  have done : ∀ (listed : Array Bool) (a : Act) (w : World), listed.size = ops.size → FrameL ops a0 vs (fun j => listed.getD j true) a → (∀ i, i < ops.size → listed.getD i true = true) → S w → Q .normal a w := by
    intro listed a w hsz hf hall hw
    rw [hf.eq (hseq ops.size (Nat.le_refl _)) fun j o hj => by
      have hlt : j < ops.size := (Array.getElem?_eq_some_iff.1 hj).1
      rw [hall j hlt]; simp [hlt]]
    exact hq w hw
  -- nothing may come up: all are listed
  have none_ready : ∀ (listed : Array Bool), listed.size = ops.size → Region.ready .any ops listed = [] → ∀ i, i < ops.size → listed.getD i true = true := by
    intro listed hsz hr i
    induction i using Nat.strongRecOn with
    | _ i ih =>
      intro hi
      cases hb : listed.getD i true with
      | true => rfl
      | false =>
        have ho : ops[i]? = some ops[i] := Array.getElem?_eq_getElem hi
        have : i ∈ Region.ready .any ops listed := mem_ready.2 ⟨hb, _, ho, fun e he _ => by
          have hlt := (regionOk_at hk ho).2.1 e he
          have h1 := ih e.on hlt (by omega)
          have h2 : e.on < listed.size := by omega
          simp only [Array.getD, h2, dif_pos] at h1 ⊢
          exact h1⟩
        rw [hr] at this
        cases this
  intro fuel
  induction fuel with
  | zero =>
    intro listed a w hsz hcl hf hfr hw
    have hall : ∀ i, i < ops.size → listed.getD i true = true := fun i hi => by
      have hlt : i < listed.size := by omega
      have hn := List.eq_nil_of_length_eq_zero hf.symm
      rw [List.filter_eq_nil_iff] at hn
      have := hn listed[i] (by simp)
      simp only [Array.getD, hlt, dif_pos]
      simpa using this
    refine ⟨?_, done listed a w hsz hfr hall hw⟩
    rw [List.eq_nil_iff_forall_not_mem]
    intro i hi
    obtain ⟨h1, o, ho, _⟩ := mem_ready.1 hi
    rw [hall i (Array.getElem?_eq_some_iff.1 ho).1] at h1
    cases h1
  | succ fuel ih =>
    intro listed a w hsz hcl hf hfr hw
    refine ⟨fun hr => done listed a w hsz hfr (none_ready listed hsz hr) hw, fun i hi => ?_⟩
    obtain ⟨hun, o, ho, hdeps⟩ := mem_ready.1 hi
    have hlt : i < ops.size := (Array.getElem?_eq_some_iff.1 ho).1
    have hreg := regionOk_at hk ho
    have hsame : ∀ t ∈ o.looksAt ops, a.tmps[t]? = (fs i).tmps[t]? := by
      intro t ht
      rw [hfr.2.2 t, (hseq i (by omega)).2.2 t]
      cases hwr : wrOf ops t with
      | none => rfl
      | some j =>
        have hj : (listed.getD j true = true) ↔ j < i := by
          rcases hreg.2.2 t ht j hwr with h1 | ⟨p, hp, h1⟩
          · obtain ⟨e, he, hb, rfl⟩ := onOf_spec h1
            have h2 := hdeps e he hb
            have h3 := hreg.2.1 e he
            refine ⟨fun _ => h3, fun _ => ?_⟩
            have h4 : e.on < listed.size := by omega
            simp only [Array.getD, h4, dif_pos] at h2 ⊢
            exact h2
          · obtain ⟨e, he, hb, rfl⟩ := onOf_spec h1
            have h3 := (regionOk_at hk hp).2.1 e he
            refine ⟨fun h4 => ?_, fun h4 => by omega⟩
            have h5 := hcl j p hp h4 e he hb
            have h6 : e.on < listed.size := by omega
            simp only [Array.getD, h6, dif_pos] at h5 hun
            rw [h5] at hun
            cases hun
        by_cases hji : j < i
        · simp only [hj.2 hji, hji, decide_true]
        · have : ¬ listed.getD j true = true := fun h => hji (hj.1 h)
          simp [this, hji]
    have heval : ∀ x ∈ o.op.operands, a.eval x = (fs i).eval x := by
      intro x hx
      cases x with
      | tmp t =>
        have hm : t ∈ o.looksAt ops := by
          unfold Oper.looksAt
          refine List.mem_append_left _ (List.mem_filterMap.2 ⟨.tmp t, by simpa using hx, rfl⟩)
        have := hsame t hm
        simp only [Act.eval, Array.getD_eq_getD_getElem?, this]
      | _ => rfl
    have hexec : execOp a.eval o = execOp (fs i).eval o := execOp_congr o (fun cs b => hsel i o cs b ho) heval
    have hwant : Region.wanted o (yielded ops a.tmps) = Region.wanted o (yielded ops (fs i).tmps) := by
      unfold Region.wanted
      cases hg : o.guard with
      | none => rfl
      | some gb =>
        obtain ⟨g, b⟩ := gb
        simp only
        congr 1
        unfold yielded
        cases hgo : (ops[g]?).bind (·.dst) with
        | none => rfl
        | some t =>
          have hm : t ∈ o.looksAt ops := by
            unfold Oper.looksAt
            refine List.mem_append_right _ ?_
            rw [hg]; simp only [hgo]; simp
          simp only [Option.bind_some, hsame t hm]
    have hnext : FrameL ops a0 vs (fun j => (listed.setIfInBounds i true).getD j true) (a.put o.dst (vs i)) := by
      refine hfr.put hreg.1 (fun j => ?_) fun hn t ht => ?_
      · by_cases hij : i = j
        · subst hij
          have : i < listed.size := by omega
          simp [this]
        · rw [getD_set_ne true hij]; simp [Ne.symm hij]
      · obtain ⟨p, hp, hpd⟩ := wrOf_dst ht
        rw [ho] at hp
        injection hp with hp
        rw [← hp, hn] at hpd
        cases hpd
    have hcl' : ∀ j p, ops[j]? = some p → (listed.setIfInBounds i true).getD j true = true → ∀ e ∈ p.after, Region.binds .any e = true → (listed.setIfInBounds i true).getD e.on false = true := by
      intro j p hp hj e he hb
      by_cases hij : i = j
      · subst hij
        rw [ho] at hp
        injection hp with hp
        subst hp
        exact getD_set_true (hdeps e he hb)
      · rw [getD_set_ne true hij] at hj
        exact getD_set_true (hcl j p hp hj e he hb)
    have hfuel : fuel = ((listed.setIfInBounds i true).toList.filter (fun b => !b)).length := by
      have hil : i < listed.size := by omega
      have hfi : listed[i] = false := by simpa [Array.getD, hil] using hun
      have hc : ∀ (l : List Bool) (k : Nat) (hkl : k < l.length), l[k] = false → ((l.set k true).filter (fun b => !b)).length + 1 = (l.filter (fun b => !b)).length := by
        intro l
        induction l with
        | nil => intro k hkl; simp at hkl
        | cons b l ih2 =>
          intro k hkl hb
          cases k with
          | zero => simp only [List.getElem_cons_zero] at hb; subst hb; simp
          | succ k =>
            simp only [List.getElem_cons_succ] at hb
            have := ih2 k (by simpa using hkl) hb
            cases b <;> simp at this ⊢ <;> omega
      have := hc listed.toList i (by simpa using hil) (by simpa using hfi)
      rw [Array.toList_setIfInBounds]
      omega
    have go : ∀ w', S w' → wpAny P .any ops Q fuel (listed.setIfInBounds i true) (a.put o.dst (vs i)) w' := fun w' hw' => ih _ _ w' (by simpa using hsz) hcl' hfuel hnext hw'
    unfold wpOp
    simp only [ho]
    rw [hwant]
    rcases (hs i o ho).1 with ⟨hwt, hdet⟩ | ⟨hwt, hv⟩
    · rw [if_pos hwt]
      refine .inl ?_
      unfold Oper.wp
      rw [hexec]
      rcases hdet w hw with hr | ⟨hr, hv⟩ | ⟨f, args, hr, hc⟩
      · rw [hr]; exact go w hw
      · rw [hr, Oper.upon_skip]
        have := go w hw
        rw [hv] at this
        exact this
      · rw [hr, Oper.upon_enter]
        refine hc.mono fun e w' he => ?_
        obtain ⟨rfl, hs'⟩ := he
        exact go w' hs'
    · rw [if_neg (by rw [hwt]; decide)]
      have := go w hw
      rw [hv] at this
      exact this

/-- THE REGION, whatever its order. -/
theorem region_seq {id : Nat} {a : Act} {w : World} {l : List Oper} (S : World → Prop) (hm : P.follows .mixedOrders = true) (hk : regionOk l.toArray = true) (hS : S w.drew) (h : seqS P l.toArray S Q l a) : (Code.region id l.toArray true).wp P Q a w := by
  refine wp_region_any hm ?_
  obtain ⟨vs, fs, h0, hs, hq⟩ := seqS_vals l 0 a h
  simp only [Nat.zero_add] at hs hq
  have hsz : l.toArray.size = l.length := by simp
  refine region_all hk a vs fs h0 (fun i o ho => hs i o (by simpa using ho)) (by rw [hsz]; exact hq) _ _ a _ (by simp) (fun i o ho hi => ?_) (by simp) ⟨rfl, rfl, fun t => ?_⟩ hS
  · have hlt : i < l.toArray.size := (Array.getElem?_eq_some_iff.1 ho).1
    simp [Array.getD] at hi
    omega
  · cases hw : wrOf l.toArray t with
    | none => rfl
    | some j =>
      obtain ⟨p, hp, _⟩ := wrOf_dst hw
      have hlt : j < l.toArray.size := (Array.getElem?_eq_some_iff.1 hp).1
      have : ¬ (Array.replicate l.toArray.size false).getD j true = true := by
        simp only [Array.getD, Array.size_replicate, hlt, dif_pos]
        simp
      show _ = if _ then _ else _
      rw [if_neg this]
end
end Go.Proofs.Ytgdgcloenhnbiaa
