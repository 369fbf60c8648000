/- Walks: maps of one's own. They are made, written, asked how many. -/
import Derived.Test.YtjhkehloipmjfaaGreatMC
import Derived.MapKept
import Derived.Carry
import Derived.Test.YtjhkehloipmjfaaGreatN0
namespace Go.Proofs.YtjhkehloipmjfaaGreat
open Go.RowKit
open Classical in
noncomputable def insM {α : Type} (k : Value) (x : α) : List (Value × α) → List (Value × α)
  | [] => [(k, x)]
  | e :: es => if e.1 = k then (k, x) :: es else e :: insM k x es
theorem zha {α : Type} {k : Value} {x : α} : ∀ {es : List (Value × α)}, (∀ p ∈ es, p.1 ≠ k) → insM k x es = es ++ [(k, x)]
  | [], _ => by rw [insM]; rfl
  | e :: es, h => by
    rw [insM, if_neg (h e (by simp)), zha fun p hp => h p (by simp [hp])]; rfl
theorem zg0 {α : Type} {k : Value} {x : α} : ∀ {es : List (Value × α)} {j : Nat} {p : Value × α}, es[j]? = some p → p.1 = k → (∀ j' q, j' < j → es[j']? = some q → q.1 ≠ k) → insM k x es = es.set j (k, x)
  | [], j, p, h, _, _ => by simp at h
  | e :: es, 0, p, h, hk, _ => by
    simp only [List.getElem?_cons_zero, Option.some.injEq] at h
    rw [insM, if_pos (by rw [h]; exact hk)]; rfl
  | e :: es, j + 1, p, h, hk, hf => by
    rw [insM, if_neg (hf 0 e (by omega) rfl), zg0 (j := j) (by simpa using h) hk fun j' q hj hq => hf (j' + 1) q (by omega) (by simpa using hq)]; rfl
theorem zgD {α : Type} {k : Value} {x : α} : ∀ {es : List (Value × α)} {p : Value × α}, p ∈ insM k x es → p = (k, x) ∨ p ∈ es
  | [], p, h => by rw [insM] at h; exact .inl (by simpa using h)
  | e :: es, p, h => by
    rw [insM] at h
    split at h
    · rcases List.mem_cons.1 h with h | h
      · exact .inl h
      · exact .inr (by simp [h])
    · rcases List.mem_cons.1 h with h | h
      · exact .inr (by simp [h])
      · rcases zgD h with h | h
        · exact .inl h
        · exact .inr (by simp [h])
theorem ze4 {d : TypeDesc} {k : Value} (hk : MapKept.IsKey d k) : ∀ (l : List MapEntry) (i : Nat), (∀ x ∈ l, MapKept.IsKey d x.key) →
    (Instr.findNow d k l i = some none ∧ ∀ x ∈ l, x.key ≠ k) ∨ ∃ j e, Instr.findNow d k l i = some (some (i + j, e.val)) ∧ l[j]? = some e ∧ e.key = k ∧ ∀ j' q, j' < j → l[j']? = some q → q.key ≠ k
  | [], _, _ => .inl ⟨rfl, by simp⟩
  | e :: es, i, h => by
    obtain ⟨r, hr, hiff⟩ := MapKept.sameNow_of_keys hk (h e (.head _))
    cases r with
    | true => exact .inr ⟨0, e, by simp [Instr.findNow, hr], rfl, (hiff.1 rfl).symm, fun j' q hj => absurd hj (by omega)⟩
    | false =>
      have hne : e.key ≠ k := fun q => by have := hiff.2 q.symm; cases this
      rcases ze4 hk es (i + 1) (fun x hx => h x (.tail _ hx)) with ⟨h1, h2⟩ | ⟨j, e', h1, h2, h3, h4⟩
      · exact .inl ⟨by simp [Instr.findNow, hr, h1], fun x hx => by
          cases hx with
          | head => exact hne
          | tail _ hx => exact h2 x hx⟩
      · refine .inr ⟨j + 1, e', by simp [Instr.findNow, hr, h1]; omega, by simpa using h2, h3, fun j' q hj hq => ?_⟩
        cases j' with
        | zero => simp only [List.getElem?_cons_zero, Option.some.injEq] at hq; subst hq; exact hne
        | succ j' => exact h4 j' q (by omega) (by simpa using hq)
def MapR (S : Nat → Nat → Prop) (w : World) (es : List (Value × VV)) (ms : List MapEntry) : Prop := ms.length = es.length ∧ ∀ (j : Nat) (p : Value × VV), es[j]? = some p → ∃ m, ms[j]? = some m ∧ m.key = p.1 ∧ ∀ (γ : Nat → Nat) (T : Nat → Value), RV γ T S w p.2 m.val
theorem MapR.at {S : Nat → Nat → Prop} {w : World} {es : List (Value × VV)} {ms : List MapEntry} (h : MapR S w es ms) {j : Nat} {m : MapEntry} (hm : ms[j]? = some m) : ∃ p, es[j]? = some p ∧ m.key = p.1 ∧ ∀ (γ : Nat → Nat) (T : Nat → Value), RV γ T S w p.2 m.val := by
  have hlt : j < es.length := by rw [← h.1]; exact (List.getElem?_eq_some_iff.1 hm).1
  obtain ⟨m', h1, h2, h3⟩ := h.2 j _ (List.getElem?_eq_getElem hlt)
  rw [hm] at h1; injection h1 with h1; subst h1
  exact ⟨_, List.getElem?_eq_getElem hlt, h2, h3⟩
theorem ziy {P : Program} {w : World} {S : Nat → Nat → Prop} {r : Nat} {ms : List MapEntry} {clock : Nat} {mty kt et : TypeId} {d : TypeDesc} {key value : Value} {es : List (Value × VV)} {x : VV} (hm : P.underlying mty = some (.map kt et)) (hd : P.underlying kt = some d) (hb : w.heap[r]? = some (.map ms.toArray clock))
    (hR : MapR S w es ms) (hks : ∀ p ∈ es, MapKept.IsKey d p.1) (hk : MapKept.IsKey d key) (hx : ∀ (γ : Nat → Nat) (T : Nat → Value), RV γ T S w x value) :
    ∃ (ms' : List MapEntry) (clock' : Nat), (Instr.mapUpdate mty (.map (some r)) key value).run P w = .ok () { w with heap := w.heap.setIfInBounds r (.map ms'.toArray clock') } ∧ MapR S w (insM key x es) ms' := by
  have hks' : ∀ m ∈ ms, MapKept.IsKey d m.key := fun m hm => by
    obtain ⟨j, hj⟩ := List.mem_iff_getElem?.1 hm
    obtain ⟨p, h1, h2, _⟩ := hR.at hj
    rw [h2]; exact hks p (List.mem_of_getElem? h1)
  rcases ze4 hk ms 0 hks' with ⟨h1, h2⟩ | ⟨j, e, h1, h2, h3, h4⟩
  · refine ⟨ms ++ [{ key := key, val := value, born := clock }], clock + 1, ?_, ?_⟩
    · simp [Instr.mapUpdate, run_underlying hm, MapKept.run_getObj_map hb, MapKept.run_checkKey hd hk, MapKept.run_findKey hd h1, MapKept.run_setObj_map _ hb, Result.andThen]
    · have hno : ∀ p ∈ es, p.1 ≠ key := fun p hp e => by
        obtain ⟨j, hj⟩ := List.mem_iff_getElem?.1 hp
        obtain ⟨m, g1, g2, _⟩ := hR.2 j p hj
        exact h2 m (List.mem_of_getElem? g1) (g2.trans e)
      rw [zha hno]
      refine ⟨by simp [hR.1], fun i p hp => ?_⟩
      by_cases hi : i < es.length
      · rw [List.getElem?_append_left hi] at hp
        rw [List.getElem?_append_left (by rw [hR.1]; exact hi)]
        exact hR.2 i p hp
      · rw [List.getElem?_append_right (by omega)] at hp
        rw [List.getElem?_append_right (by rw [hR.1]; omega), hR.1]
        obtain ⟨i', hi'⟩ : ∃ i', i - es.length = i' := ⟨_, rfl⟩
        rw [hi'] at hp ⊢
        cases i' with
        | zero => simp only [List.getElem?_cons_zero, Option.some.injEq] at hp; subst hp; exact ⟨_, rfl, rfl, hx⟩
        | succ i' => simp at hp
  · have hj : ms.toArray[j]? = some e := by simpa using h2
    refine ⟨ms.set j { e with key := key, val := value }, clock, ?_, ?_⟩
    · have hmod : (ms.modify j fun e => { e with key := key, val := value }) = ms.set j { e with key := key, val := value } := by
        apply List.ext_getElem?
        intro i
        rw [List.getElem?_modify, List.getElem?_set]
        by_cases hi : j = i
        · subst hi
          obtain ⟨h5, h6⟩ := List.getElem?_eq_some_iff.1 h2
          simp [h5, h6]
        · simp [hi]
      simp [Instr.mapUpdate, run_underlying hm, MapKept.run_getObj_map hb, MapKept.run_checkKey hd hk, MapKept.run_findKey hd h1, h2, h3, MapKept.run_keyThatStays hk, MapKept.run_setObj_map _ hb, Result.andThen]
      rw [hmod]
    · obtain ⟨p, g1, g2, _⟩ := hR.at h2
      rw [zg0 (j := j) g1 (by rw [← g2]; exact h3) fun j' q hj' hq => by
        obtain ⟨m, q1, q2, _⟩ := hR.2 j' q hq
        rw [← q2]; exact h4 j' m hj' q1]
      refine ⟨by simp [hR.1], fun i q hq => ?_⟩
      rw [List.getElem?_set] at hq
      rw [List.getElem?_set]
      by_cases hi : j = i
      · rw [if_pos hi] at hq
        rw [if_pos hi]
        have hlt : j < es.length := (List.getElem?_eq_some_iff.1 g1).1
        rw [if_pos (by omega)] at hq
        rw [if_pos (by rw [hR.1]; omega)]
        injection hq with hq; subst hq
        exact ⟨_, rfl, rfl, hx⟩
      · rw [if_neg hi] at hq
        rw [if_neg hi]
        exact hR.2 i q hq
def rawV : VV → Bool
  | .one (.d _) => true
  | .dat _ => true
  | _ => false
theorem zeZ {γ γ' : Nat → Nat} {T T' : Nat → Value} {S : Nat → Nat → Prop} {w : World} {x : VV} {v : Value} (hr : rawV x = true) (h : RV γ T S w x v) : RV γ' T' S w x v := by
  cases x with
  | one c => cases c with
    | d y => cases h with | one h => exact .one h
    | _ => cases hr
  | dat cs => cases h with | dat h => exact .dat h
  | _ => cases hr
section
variable {X : Ctx} {γ : Nat → Nat} {T : Nat → Value} {S : Nat → Nat → Prop} {w : World} {fr : Fr} {σ : Obs} {ops : Array Oper} {o : Oper} {rest : List Oper} {Q : Fr → Obs → Prop}
theorem Rel.allocO {a : Act} (k : Nat) (h : Rel X γ T S w fr σ a) (obj : Obj) (ob : Ob)
    (ho : ∀ γ', (∀ j, j ≠ k → γ' j = γ j) → γ' k = w.heap.size → RO X γ' T S (w.alloc obj) k ob) (hf : ∀ γ' b, fp γ' T k ob b → b = γ' k) :
    Rel X (setK γ k w.heap.size) T S (w.alloc obj) (stripF k fr) ((k, ob) :: stripS k σ) a := by
  have h1 := h.grow (w' := w.alloc obj) (S' := S) (zbo _ _) (fun _ _ hs => hs) (fun _ _ hs => .inl hs)
  have h2 := h1.upd (γ' := setK γ k w.heap.size) (T' := T) k (fun j hj => zaN _ _ _ _ hj) (fun _ _ => rfl)
  refine h2.add (fun o hl => ?_) (ho _ (fun j hj => zaN _ _ _ _ hj) (zaG _ _ _)) fun b hb k' o' hl hne hb' => ?_
  · rw [zaH, Option.map_eq_some_iff] at hl
    obtain ⟨o', _, h3⟩ := hl
    simpa using h3.symm
  · have e := hf _ b hb
    rw [zaG] at e
    rw [zaH, Option.map_eq_some_iff] at hl
    obtain ⟨o2, h3, h4⟩ := hl
    rw [if_neg hne] at h4
    subst h4
    have h5 := fp.strip (γ := γ) (T := T) hne (fun j hj => zaN _ _ _ _ hj) (fun _ _ => rfl) hb'
    have := (h.st.obj k' o2 h3).lt h5
    omega
theorem zmz {d : Nat} {t : TypeId} (hw : wantA ops o fr = some true) (hdst : o.dst = some d) (hd : Nat.blt d X.nt = true) (ho : o.op = .makeMap t none)
    (h : RL X ops rest ((d, .one (.mr d)) :: stripF d fr) ((d, .mp []) :: stripS d σ) Q) : RL X ops (o :: rest) fr σ Q :=
  ⟨fun γ T S w a K hr hk => wpList_step fun K' hK => by
    rw [if_pos (zau hr hw)]
    have hex : (execOp a.eval o).run X.P w = .ok (.value (.map (some w.heap.size))) (w.alloc (.map #[] 0)) := by
      simp only [execOp, ho, Option.map_none, Sem.run_bind, run_makeMap, Result.andThen_ok, Sem.run_pure]
    unfold Oper.wp
    rw [hex]
    have h7 := hr.allocO d (.map #[] 0) (.mp []) (fun γ' _ hg => ⟨[], 0, by rw [hg]; exact (MapKept.heap_alloc w _).1, ⟨rfl, fun j p hp => by simp at hp⟩, by rw [hg]; exact (za2 hr _ (Nat.le_refl _)).1, by rw [hg]; exact (za2 hr _ (Nat.le_refl _)).2, fun b hb => by rw [X.low d (Nat.blt_eq ▸ hd)] at hb; cases hb⟩) (fun _ _ hb => hb)
    refine hK _ _ (h.out (setK γ d w.heap.size) T S _ _ K ?_ hk)
    rw [hdst]
    exact h7.put (dst := some d) hd (.one (by simp only [RC, zaG]))⟩
theorem zmZ {k : Nat} {t kt et : TypeId} {d : TypeDesc} {m kx xx : Operand} {es : List (Value × VV)} {key : Value} {x : VV} (hw : wantA ops o fr = some true) (hdst : o.dst = none) (ho : o.op = .mapUpdate t m kx xx) (hm : ev fr m = some (.one (.mr k))) (hk : look σ k = some (.mp es)) (hkx : ev fr kx = some (.one (.d (.v key)))) (hxx : ev fr xx = some x) (hraw : rawV x = true)
    (ht : X.P.underlying t = some (.map kt et)) (hd : X.P.underlying kt = some d) (hks : ∀ p ∈ es, MapKept.IsKey d p.1) (hkey : MapKept.IsKey d key)
    (h : RL X ops rest fr ((k, .mp (insM key x es)) :: σ) Q) : RL X ops (o :: rest) fr σ Q :=
  ⟨fun γ T S w a K hr hkk => wpList_step fun K' hK => by
    rw [if_pos (zau hr hw)]
    obtain ⟨ms, clock, g1, g2, g3, g4, g5⟩ := hr.st.obj k _ hk
    have hv := zak hr hm
    cases hv with
    | one hv =>
      have hev : a.eval m = .map (some (γ k)) := hv
      have hkv : a.eval kx = key := zaJ (zak hr hkx)
      obtain ⟨ms', clock', hrun, hR⟩ := ziy (P := X.P) (x := x) (value := a.eval xx) ht hd g1 g2 hks hkey fun γ' T' => zeZ hraw (zak hr hxx)
      have hexec : (execOp a.eval o).run X.P w = .ok .skip { w with heap := w.heap.setIfInBounds (γ k) (.map ms'.toArray clock') } := by
        simp only [execOp, ho, hev, hkv, Sem.run_bind, hrun, Result.andThen_ok, Sem.run_pure]
      have honly : OnlyAt w { w with heap := w.heap.setIfInBounds (γ k) (.map ms'.toArray clock') } (γ k) := ⟨rfl, rfl, rfl, by simp, fun b hb => (MapKept.heap_set g1).2 b hb⟩
      unfold Oper.wp
      rw [hexec]
      refine hK _ _ ?_
      have hkp : Kp S w { w with heap := w.heap.setIfInBounds (γ k) (.map ms'.toArray clock') } := fun b o x hs hc => by
        rw [World.cell?_of_block (honly.block b fun e => g3 o (e ▸ hs))]; exact hc
      have := (hr.chg (ob' := .mp (insM key x es)) hk rfl rfl honly ⟨ms', clock', (MapKept.heap_set g1).1, ⟨hR.1, fun j p hp => by
        obtain ⟨m, q1, q2, q3⟩ := hR.2 j p hp
        exact ⟨m, q1, q2, fun γ' T' => (q3 γ' T').mono (fun _ _ hs => hs) hkp⟩⟩, g3, g4, g5⟩).1
      have h9 := h.out γ T S _ a K this hkk
      rw [hdst]
      exact h9⟩
theorem zi2 {a : Act} {x : Operand} {k : Nat} {t kt et : TypeId} {es : List (Value × VV)} (ho : o.op = .call { callee := .builtin .len, args := #[x], argTypes := #[t] }) (ht : X.P.underlying t = some (.map kt et)) (hr : Rel X γ T S w fr σ a) (hx : ev fr x = some (.one (.mr k))) (hk : look σ k = some (.mp es)) : (execOp a.eval o).run X.P w = .ok (.value (.int .i64 es.length)) w := by
  obtain ⟨ms, clock, g1, g2, _⟩ := hr.st.obj k _ hk
  have hv := zak hr hx
  cases hv with
  | one hv =>
    have e : a.eval x = .map (some (γ k)) := hv
    have hl : ms.toArray.size = es.length := by rw [← g2.1]; simp
    simp [execOp, ho, resolve, invoke, builtin, e, Builtin.len_, run_underlying ht, goInt, MapKept.run_getObj_map g1, g2.1]
variable {τ0 σB : Obs} {K : List Cr} {C0 : Cons} {QD : Fr → Obs → Prop} {i0 : Nat}
theorem zml {x : Operand} {k d : Nat} {t kt et : TypeId} {es : List (Value × VV)} (hw : wantA ops o (restr ops o fr) = some true) (hdst : o.dst = some d) (hd : Nat.blt d X.nt = true) (ho : o.op = .call { callee := .builtin .len, args := #[x], argTypes := #[t] }) (ht : X.P.underlying t = some (.map kt et)) (hx : ev (restr ops o fr) x = some (.one (.mr k))) (hk : look σB k = some (.mp es)) (hm : MenOk o K (.one (.d (.v (.int .i64 es.length)))))
    (h : DSeq X ops τ0 σB QD (i0 + 1) K C0 rest ((d, .one (.d (.v (.int .i64 es.length)))) :: fr)) : DSeq X ops τ0 σB QD i0 K C0 (o :: rest) fr :=
  zbI hdst hd hm (.inr ⟨hw, fun _ _ S w _ hr => .inl ⟨_, w, zi2 ho ht hr hx hk, S, zbc S w, .one (.v _ rfl)⟩⟩) h
theorem zlW {d : Nat} {t : TypeId} {x : Operand} {cs : List C} (hw : wantA ops o fr = some true) (hdst : o.dst = some d) (hd : Nat.blt d X.nt = true) (ho : o.op = .box t x) (hx : ev fr x = some (.ag cs)) (hfree : cs.all (fun c => (stripC d c).isSome) = true)
    (h : RL X ops rest ((d, .one (.po d 0)) :: stripF d fr) ((d, .obj t (stripL d cs)) :: stripS d σ) Q) : RL X ops (o :: rest) fr σ Q :=
  ⟨fun γ T S w a K hr hk => wpList_step fun K' hK => by
    rw [if_pos (zau hr hw)]
    have hv := zak hr hx
    generalize he : a.eval x = v at hv
    cases hv with
    | ag _ us len val =>
      have hex : (execOp a.eval o).run X.P w = .ok (.value (.pointer (some ⟨w.heap.size, 0, none⟩))) (w.alloc (.cells us.toArray t)) := by
        simp only [execOp, ho, he, Instr.box, Sem.run_bind, Result.andThen_ok, zbu, Sem.run_pure, Value.cells]
      unfold Oper.wp
      rw [hex]
      have h7 := hr.alloc d us t (.obj t (stripL d cs)) (fun γ' hne hg => ⟨us, by rw [hg]; exact heap_alloc_new w _, by
          have h8 : RCL γ' T S w (stripL d cs) us := ⟨by unfold stripL; rw [List.length_map]; exact len, fun j c hc => by
            unfold stripL at hc
            rw [List.getElem?_map, Option.map_eq_some_iff] at hc
            obtain ⟨c0, h0, rfl⟩ := hc
            obtain ⟨u, h1, h2⟩ := val j c0 h0
            obtain ⟨c', hc'⟩ := Option.isSome_iff_exists.1 (List.all_eq_true.1 hfree c0 (List.mem_of_getElem? h0))
            have e : stripA d c0 = c' := by unfold stripA; rw [hc']
            rw [e]
            exact ⟨u, h1, h2.strip hne (fun _ _ => rfl) hc', h2.one⟩⟩
          exact h8.mono (fun _ _ hs => hs) (.of_below hr.st.lt (zbo _ _)), by rw [hg]; exact (za2 hr _ (Nat.le_refl _)).1, by rw [hg]; exact (za2 hr _ (Nat.le_refl _)).2, fun b hb => by rw [X.low d (Nat.blt_eq ▸ hd)] at hb; cases hb⟩) (fun _ _ hb => hb)
      refine hK _ _ (h.out (setK γ d w.heap.size) T S _ _ K ?_ hk)
      rw [hdst]
      exact h7.put (dst := some d) hd (.one (by simp only [RC, zaG]))⟩
end
section
variable {w0 : W0} {S0 : Nat → Nat → Prop} {nt : Nat} {fr fr1 : Fr} {σ σ1 σ2 τ0 τ1 σB : Obs} {o : Oper} {ops : Array Oper} {rest : List Oper} {Q : Fr → Obs → Prop} {d k : Nat} {xx : Operand} {QQ : Exit → Fr → Obs → Prop} {QD : Fr → Obs → Prop} {K : List Cr} {C0 : Cons} {j0 : Nat} {t kt et : TypeId}
theorem uMkM (h : RL (cx nt w0 S0) ops rest ((d, .one (.mr d)) :: fr1) ((d, .mp []) :: σ1) Q) (ho : o.op = .makeMap t none := by rfl) (hw : wantA ops o fr = some true := by rfl) (hdst : o.dst = some d := by rfl) (hd : Nat.blt d nt = true := by rfl) (hf : stripF d fr = fr1 := by first | ((try simp only [zat, zaB, zav, zaz, stripV, plainV, List.all_cons, List.all_nil, Bool.and_self, stripC, stripO, stripA, zay, zar, zaE, zaA, Nat.reduceEqDiff, if_false, if_true, reduceIte, List.contains_nil, List.contains_cons, Nat.reduceBEq, Bool.or_false, Bool.false_eq_true, Bool.or_true]) <;> rfl) | rfl) (hs : stripS d σ = σ1 := by first | ((try simp only [zat, zaB, zav, zaz, stripV, plainV, List.all_cons, List.all_nil, Bool.and_self, stripC, stripO, stripA, zay, zar, zaE, zaA, Nat.reduceEqDiff, if_false, if_true, reduceIte, List.contains_nil, List.contains_cons, Nat.reduceBEq, Bool.or_false, Bool.false_eq_true, Bool.or_true]) <;> rfl) | rfl) : RL (cx nt w0 S0) ops (o :: rest) fr σ Q :=
  zmz (X := cx nt w0 S0) hw hdst hd ho (hf ▸ hs ▸ h)
theorem uMuM {dd : TypeDesc} {m kx : Operand} {es : List (Value × VV)} {key : Value} {x : VV} (hks : ∀ p ∈ es, MapKept.IsKey dd p.1) (h : RL (cx nt w0 S0) ops rest fr ((k, .mp (insM key x es)) :: σ) Q) (ho : o.op = .mapUpdate t m kx xx := by rfl) (hw : wantA ops o fr = some true := by rfl) (hdst : o.dst = none := by rfl) (hm : ev fr m = some (.one (.mr k)) := by rfl) (hk : look σ k = some (.mp es) := by rfl) (hkx : ev fr kx = some (.one (.d (.v key))) := by rfl) (hxx : ev fr xx = some x := by rfl) (hraw : rawV x = true := by rfl)
    (ht : Tryz.prog.underlying t = some (.map kt et) := by rfl) (hd : Tryz.prog.underlying kt = some dd := by rfl) (hkey : MapKept.IsKey dd key := by trivial) : RL (cx nt w0 S0) ops (o :: rest) fr σ Q :=
  zmZ (X := cx nt w0 S0) hw hdst ho hm hk hkx hxx hraw ht hd hks hkey h
theorem mLenM {es : List (Value × VV)} {n : Nat} (h : DSeq (cx nt w0 S0) ops τ0 σB QD (j0 + 1) K C0 rest ((d, vI n) :: fr)) (ho : o.op = .call { callee := .builtin .len, args := #[xx], argTypes := #[t] } := by rfl) (hx : ev (restr ops o fr) xx = some (.one (.mr k)) := by rfl) (hk : look σB k = some (.mp es) := by rfl) (hn : es.length = n := by rfl) (hw : wantA ops o (restr ops o fr) = some true := by rfl) (hdst : o.dst = some d := by rfl) (hd : Nat.blt d nt = true := by rfl) (ht : Tryz.prog.underlying t = some (.map kt et) := by rfl) (hm : MenOk o K (vI n) := by (repeat (first | exact zaO _ _ | refine zaK (by first | exact Or.inl rfl | exact Or.inr rfl) ?_))) : DSeq (cx nt w0 S0) ops τ0 σB QD j0 K C0 (o :: rest) fr := by
  subst hn
  exact zml (X := cx nt w0 S0) hw hdst hd ho ht hx hk hm h
theorem uBxG {cs cs' : List C} (h : RL (cx nt w0 S0) ops rest ((d, .one (.po d 0)) :: fr1) ((d, .obj t cs') :: σ1) Q) (ho : o.op = .box t xx := by rfl) (hw : wantA ops o fr = some true := by rfl) (hdst : o.dst = some d := by rfl) (hd : Nat.blt d nt = true := by rfl) (hx : ev fr xx = some (.ag cs) := by rfl) (hfree : cs.all (fun c => (stripC d c).isSome) = true := by rfl) (hc : stripL d cs = cs' := by rfl) (hf : stripF d fr = fr1 := by first | ((try simp only [zat, zaB, zav, zaz, stripV, plainV, List.all_cons, List.all_nil, Bool.and_self, stripC, stripO, stripA, zay, zar, zaE, zaA, Nat.reduceEqDiff, if_false, if_true, reduceIte, List.contains_nil, List.contains_cons, Nat.reduceBEq, Bool.or_false, Bool.false_eq_true, Bool.or_true]) <;> rfl) | rfl) (hs : stripS d σ = σ1 := by first | ((try simp only [zat, zaB, zav, zaz, stripV, plainV, List.all_cons, List.all_nil, Bool.and_self, stripC, stripO, stripA, zay, zar, zaE, zaA, Nat.reduceEqDiff, if_false, if_true, reduceIte, List.contains_nil, List.contains_cons, Nat.reduceBEq, Bool.or_false, Bool.false_eq_true, Bool.or_true]) <;> rfl) | rfl) : RL (cx nt w0 S0) ops (o :: rest) fr σ Q :=
  zlW (X := cx nt w0 S0) hw hdst hd ho hx hfree (hf ▸ hs ▸ hc ▸ h)
end
end Go.Proofs.YtjhkehloipmjfaaGreat
namespace Go.Proofs.YtjhkehloipmjfaaGreat
open Go.RowKit
section
variable {X : Ctx} {γ : Nat → Nat} {T : Nat → Value} {S : Nat → Nat → Prop} {w : World} {fr : Fr} {σ : Obs} {a : Act} {o : Oper} {d k m : Nat} {t e : TypeId} {i : TyI} {p : Operand} {rows : List (List D)} {x : Value}
theorem zjg (hT : Good X) (hr : Rel X γ T S w fr σ a) (ho : o.op = .load t p) (h1 : ev fr p = some (.one (.pe k m 0 1))) (hk : look σ k = some (.arr e 1 rows)) (hs : rows[m]? = some [.v x]) (hi : X.Ty t = some i) (ha : i.agg = false) : (execOp a.eval o).run X.P w = .ok (.value x) w := by
  obtain ⟨inf, d0, e1, e2, e3, e4, e5, e6, _⟩ := (hT t i hi).get
  have hagg : (isAgg t).run X.P w = .ok false w := by
    unfold isAgg
    rw [Sem.run_bind, run_underlying e2 w, ← ha, ← e6]
    cases d0 <;> rfl
  have hcell := zgd (hr.st.obj k _ hk) hs
  have hv := zak hr h1
  cases hv with
  | one hv =>
    have hev : a.eval p = .pointer (some ⟨γ k, m, none⟩) := by
      have : a.eval p = .pointer (some ⟨γ k, m * 1 + 0, none⟩) := hv
      simpa using this
    simp only [execOp, ho, hev, Instr.loadAt, Instr.sureAddr, loadVar, load, Sem.run, Sem.run_bind, Sem.run_pure, Result.andThen_ok, hagg, hcell, Bool.false_eq_true, if_false]
end
section
variable {nt : Nat} {w0 : W0} {S0 : Nat → Nat → Prop} {fr : Fr} {σ : Obs} {ops : Array Oper} {o : Oper} {rest : List Oper} {Q : Fr → Obs → Prop} {d k lo n c m : Nat} {t el : TypeId} {i e : TyI} {xx ix p : Operand} {rows : List (List D)} {x : Value} {τ0 σB : Obs} {K : List Cr} {C0 : Cons} {QD : Fr → Obs → Prop} {j0 : Nat} {xs : Array Operand} {ats : Array TypeId} {z z' : Int}
theorem mWix (h : DSeq (cx nt w0 S0) ops τ0 σB QD (j0 + 1) K C0 rest ((d, .one (.pe k (lo + z.toNat) 0 1)) :: fr)) (ho : o.op = .indexAddr t xx ix := by rfl) (h1 : ev (restr ops o fr) xx = some (.one (.win k lo n c 1)) := by rfl) (h2 : (ev (restr ops o fr) ix).bind intV = some z := by rfl) (h0 : 0 ≤ z := by omega) (hlt : z < n := by omega) (hw : wantA ops o (restr ops o fr) = some true := by rfl) (hdst : o.dst = some d := by rfl) (hd : Nat.blt d nt = true := by rfl)
    (hi : Ty t = some i := by rfl) (htag : i.tag = 2 := by rfl) (he : Ty i.elem = some e := by rfl) (hsz : e.size = 1 := by rfl) (hm : MenOk o K (.one (.pe k (lo + z.toNat) 0 1)) := by (repeat (first | exact zaO _ _ | refine zaK (by first | exact Or.inl rfl | exact Or.inr rfl) ?_))) : DSeq (cx nt w0 S0) ops τ0 σB QD j0 K C0 (o :: rest) fr :=
  zbI (X := cx nt w0 S0) hdst hd hm (.inr ⟨hw, fun γ T S w a hr => .inl (by
    obtain ⟨v, e1, e2⟩ := ziV (X := cx nt w0 S0) zag hr ho h1 h2 h0 hlt hi htag he hsz
    exact ⟨v, w, e1, S, zbc S w, e2⟩)⟩) h
theorem mPelv (x : Value) (h : DSeq (cx nt w0 S0) ops τ0 σB QD (j0 + 1) K C0 rest ((d, .one (.d (.v x))) :: fr)) (hs : rows[m]? = some [.v x]) (ho : o.op = .load t p := by rfl) (h1 : ev (restr ops o fr) p = some (.one (.pe k m 0 1)) := by rfl) (hk : look σB k = some (.arr el 1 rows) := by rfl) (hw : wantA ops o (restr ops o fr) = some true := by rfl) (hdst : o.dst = some d := by rfl) (hd : Nat.blt d nt = true := by rfl)
    (hx1 : x.oneCell' = true := by rfl) (hi : Ty t = some i := by rfl) (ha : i.agg = false := by rfl) (hm : MenOk o K (.one (.d (.v x))) := by (repeat (first | exact zaO _ _ | refine zaK (by first | exact Or.inl rfl | exact Or.inr rfl) ?_))) : DSeq (cx nt w0 S0) ops τ0 σB QD j0 K C0 (o :: rest) fr :=
  zbI (X := cx nt w0 S0) hdst hd hm (.inr ⟨hw, fun _ _ S w _ hr => .inl ⟨x, w, zjg (X := cx nt w0 S0) zag hr ho h1 hk hs hi ha, S, zbc S w, .one (.v _ hx1)⟩⟩) h
theorem uMinY (hz : z = z') (h : RL (cx nt w0 S0) ops rest ((d, vI z') :: fr) σ Q) (_ho : o.op = .call { callee := .builtin .min, args := xs, argTypes := ats } := by rfl) (hdst : o.dst = some d := by rfl) (hd : Nat.blt d nt = true := by rfl) (hw : wantA ops o fr = some true := by rfl) (hv : aop (cx nt w0 S0) o fr σ = some ⟨.one (.d (.v (.int .i64 z))), fr, σ⟩ := by rfl) : RL (cx nt w0 S0) ops (o :: rest) fr σ Q :=
  RL_p (X := cx nt w0 S0) zag hw hdst hd hv (hz ▸ h)
theorem mMinY (hz : z = z') (h : DSeq (cx nt w0 S0) ops τ0 σB QD (j0 + 1) K C0 rest ((d, vI z') :: fr)) (_ho : o.op = .call { callee := .builtin .min, args := xs, argTypes := ats } := by rfl) (hdst : o.dst = some d := by rfl) (hd : Nat.blt d nt = true := by rfl) (hw : wantA ops o (restr ops o fr) = some true := by rfl) (hv : aop (cx nt w0 S0) o (restr ops o fr) σB = some ⟨.one (.d (.v (.int .i64 z))), restr ops o fr, σB⟩ := by rfl) (hm : MenOk o K (vI z') := by (repeat (first | exact zaO _ _ | refine zaK (by first | exact Or.inl rfl | exact Or.inr rfl) ?_))) : DSeq (cx nt w0 S0) ops τ0 σB QD j0 K C0 (o :: rest) fr :=
  D_p (X := cx nt w0 S0) zag hdst hd hw (hz ▸ hv) hm h
end
section
variable {X : Ctx} {fr : Fr} {σ : Obs} {Q : Exit → Fr → Obs → Prop}
def MidU (F : Fr) (G : Obs) : Exit → Fr → Obs → Prop
  | .normal, fr, σ => Sub F fr ∧ Sub G σ
  | _, _, _ => False
theorem zkY (n : Nat) (F : Fr) (G : Obs) {ops : Array Oper} {dr : Bool} {c c' : Code} (h1 : W X (.seq (.region n ops dr) c) fr σ (MidU F G)) (h2 : W X c' F G Q) : W X (.seq (.seq (.region n ops dr) c) c') fr σ Q :=
  zac (h1.conseq fun e fr' σ' hq => by
    cases e with
    | normal => exact h2.weak hq.1 hq.2
    | _ => exact hq.elim)
end
theorem CallsN.toV {P : Program} {f : FuncId} {args : List VV} {x : VV} {R : VV → Obs → Prop} (h : CallsN P f args [] R) (hx : rawV x = true) (hR : ∀ y σ1, R y σ1 → y = x) : CallsV P f args (.val x) :=
  ⟨h.ent, fun S w vs ha hlt => by
    have hst : St (ictx P w (fun b => b < w.heap.size) S (pinM [] (fun _ => 0))) (fun _ => 0) (fun _ => undef) S w [] :=
      ⟨.refl _ _, hlt, fun _ hb => hb, fun _ _ hs => .inl hs, ⟨fun _ _ hs => hs, .refl⟩, fun k o hk => (by cases hk), fun k k' o o' hk => (by cases hk)⟩
    refine (h.out _ _ _ S w vs hst ⟨ha.1, fun j y v hy hv => ha.2 j y v hy hv _ _⟩).mono fun ex w' he => ?_
    obtain ⟨y, σ1, hy, v, γ', T', S', rfl, hs', hv⟩ := he
    obtain rfl := hR y σ1 hy
    refine ⟨v, S', rfl, ⟨hs'.keep.os, hs'.keep.tape, hs'.keep.output, hs'.keep.size, fun k hk => hs'.keep.block k hk hk⟩, hs'.mon.1, fun b o hb => ?_, fun γ T => zeZ hx hv⟩
    rcases hs'.set b o hb with h1 | h1
    · exact .inl h1
    · have h1 : ¬ b < w.heap.size := h1
      exact .inr ⟨by omega, hs'.lt b o hb⟩⟩
end Go.Proofs.YtjhkehloipmjfaaGreat
namespace Go.Proofs.YtjhkehloipmjfaaGreat
open Go.RowKit
structure Mv where
  src : Int
  dst : Int
  elem : Int
deriving DecidableEq
structure Mach where
  elems : List Pt
  moves : List Mv
  states : Int
abbrev Lay := Int → Int → Mach → Mach
def mvM (s t e : Int) (m : Mach) : Mach := ⟨m.elems, m.moves ++ [⟨s, t, e⟩], m.states⟩
def elM (p : Pt) (m : Mach) : Mach := ⟨m.elems ++ [p], m.moves, m.states⟩
def stM (m : Mach) : Mach := ⟨m.elems, m.moves, m.states + 1⟩
def upM (x : Int × Mach) (k : Lay) : Int × Mach := (x.2.states, k x.1 x.2.states (stM x.2))
def seqM (ks : List Lay) (s t : Int) (m : Mach) : Mach := match ks.getLast? with
  | none => m
  | some k => k ((ks.dropLast.foldl upM (s, m)).1) t (ks.dropLast.foldl upM (s, m)).2
def layM : Pt → Lay := foldP fun p ks s t m =>
  if p.kind = 1 ∨ p.kind = 2 then elM p (mvM s t m.elems.length m)
  else if p.kind = 3 then seqM ks s t m
  else if p.kind = 4 then ks.foldl (fun m k => k s t m) m
  else if p.kind = 5 then match ks with
    | [] => m
    | k :: _ => if p.max = 1 then k s t (mvM s t (-1) m) else mvM m.states t (-1) (k m.states m.states (mvM s m.states (-1) (stM m)))
  else m
def upP (x : Int × Mach) (k : Pt) : Int × Mach := upM x (layM k)
theorem zdn (p : Pt) (s t : Int) (m : Mach) : layM p s t m = if p.kind = 1 ∨ p.kind = 2 then elM p (mvM s t m.elems.length m)
  else if p.kind = 3 then seqM (p.kids.map layM) s t m
  else if p.kind = 4 then p.kids.foldl (fun m k => layM k s t m) m
  else if p.kind = 5 then match p.kids.map layM with
    | [] => m
    | k :: _ => if p.max = 1 then k s t (mvM s t (-1) m) else mvM m.states t (-1) (k m.states m.states (mvM s m.states (-1) (stM m)))
  else m := by
  unfold layM; rw [za8, List.foldl_map]
theorem zb9 {p : Pt} (h : p.kind = 1 ∨ p.kind = 2) (s t : Int) (m : Mach) : layM p s t m = elM p (mvM s t m.elems.length m) := by rw [zdn, if_pos h]
theorem zc1 {p k : Pt} (h : p.kind = 3) (hk : p.kids[p.kids.length - 1]? = some k) (s t : Int) (m : Mach) : layM p s t m = layM k ((p.kids.take (p.kids.length - 1)).foldl upP (s, m)).1 t ((p.kids.take (p.kids.length - 1)).foldl upP (s, m)).2 := by
  rw [zdn, if_neg (by omega), if_pos h]
  have e : (p.kids.map layM).getLast? = some (layM k) := by
    rw [List.getLast?_eq_getElem?, List.length_map, List.getElem?_map, hk]; rfl
  unfold seqM
  rw [e]
  have e2 : (p.kids.map layM).dropLast = (p.kids.take (p.kids.length - 1)).map layM := by rw [List.dropLast_eq_take, List.length_map, List.map_take]
  simp only [e2, List.foldl_map]
  rfl
theorem zcY {p : Pt} (h : p.kind = 4) (s t : Int) (m : Mach) : layM p s t m = p.kids.foldl (fun m k => layM k s t m) m := by rw [zdn, if_neg (by omega), if_neg (by omega), if_pos h]
theorem zc0 {p k : Pt} (h : p.kind = 5) (hk : p.kids = [k]) (hm : p.max = 1) (s t : Int) (m : Mach) : layM p s t m = layM k s t (mvM s t (-1) m) := by
  rw [zdn, if_neg (by omega), if_neg (by omega), if_neg (by omega), if_pos h, hk, List.map_cons]
  dsimp only
  rw [if_pos hm]
theorem zb7 {p k : Pt} (h : p.kind = 5) (hk : p.kids = [k]) (hm : p.max ≠ 1) (s t : Int) (m : Mach) : layM p s t m = mvM m.states t (-1) (layM k m.states m.states (mvM s m.states (-1) (stM m))) := by
  rw [zdn, if_neg (by omega), if_neg (by omega), if_neg (by omega), if_pos h, hk, List.map_cons]
  dsimp only
  rw [if_neg hm]
def shapeP : Pt → Bool := foldP fun p ks => (if p.kind = 1 ∨ p.kind = 2 then p.kids.isEmpty else if p.kind = 3 ∨ p.kind = 4 then !p.kids.isEmpty
  else p.kind == 5 && p.kids.length == 1 && (p.max == 1 || p.max == -1)) && ks.all id
theorem zbT (p : Pt) : shapeP p = ((if p.kind = 1 ∨ p.kind = 2 then p.kids.isEmpty else if p.kind = 3 ∨ p.kind = 4 then !p.kids.isEmpty
  else p.kind == 5 && p.kids.length == 1 && (p.max == 1 || p.max == -1)) && p.kids.all shapeP) := by
  unfold shapeP; rw [za8, List.all_map]; rfl
theorem zbv {p : Pt} (h : shapeP p = true) : ∀ k ∈ p.kids, shapeP k = true := by
  rw [zbT, Bool.and_eq_true, List.all_eq_true] at h; exact h.2
theorem zbC {p : Pt} (h : shapeP p = true) : ((p.kind = 1 ∨ p.kind = 2) ∧ p.kids = []) ∨ ((p.kind = 3 ∨ p.kind = 4) ∧ p.kids ≠ []) ∨ (p.kind = 5 ∧ (∃ k, p.kids = [k]) ∧ (p.max = 1 ∨ p.max = -1)) := by
  rw [zbT, Bool.and_eq_true] at h
  obtain ⟨h, _⟩ := h
  split at h
  · rename_i hk; exact .inl ⟨hk, List.isEmpty_iff.1 h⟩
  · split at h
    · rename_i hk
      refine .inr (.inl ⟨hk, fun e => ?_⟩)
      rw [e] at h; cases h
    · simp only [Bool.and_eq_true, Bool.or_eq_true, beq_iff_eq] at h
      exact .inr (.inr ⟨h.1.1, List.length_eq_one_iff.1 h.1.2, h.2⟩)
theorem zhG {k : Int} {l : List Pt} (hk : k = 3 ∨ k = 4) (hne : l ≠ []) (h : ∀ x ∈ l, shapeP x = true) : shapeP (groupP k l) = true := by
  rw [zbT]
  unfold groupP
  dsimp only
  rw [if_neg (by omega), if_pos hk, Bool.and_eq_true, List.all_eq_true]
  exact ⟨by cases l with
    | nil => exact absurd rfl hne
    | cons x l => rfl, h⟩
theorem zcC {b : Pt} {m : Int} (hm : m = 1 ∨ m = -1) (h : shapeP b = true) : shapeP (quantP b m) = true := by
  rw [zbT]
  unfold quantP
  rcases hm with rfl | rfl <;> simp [h]
theorem ze7 {k : Int} (hk : k = 3 ∨ k = 4) {p : Pt} (h : shapeP p = true) : openP k p ≠ [] ∧ ∀ x ∈ openP k p, shapeP x = true := by
  unfold openP
  split
  · rename_i e
    refine ⟨?_, zbv h⟩
    rcases zbC h with ⟨h1, _⟩ | ⟨_, h2⟩ | ⟨h1, _⟩
    · omega
    · exact h2
    · omega
  · exact ⟨by simp, fun x hx => by obtain rfl := List.mem_singleton.1 hx; exact h⟩
theorem zdP {k : Int} (hk : k = 3 ∨ k = 4) {l : List Pt} (hne : l ≠ []) (h : ∀ x ∈ l, shapeP x = true) : shapeP (joinP k l) = true := by
  have h1 : l.flatMap (openP k) ≠ [] := by
    cases l with
    | nil => exact absurd rfl hne
    | cons x l =>
      rw [List.flatMap_cons]
      intro e
      exact (ze7 hk (h x List.mem_cons_self)).1 (List.append_eq_nil_iff.1 e).1
  have h2 : ∀ y ∈ l.flatMap (openP k), shapeP y = true := fun y hy => by
    obtain ⟨x, hx, hxy⟩ := List.mem_flatMap.1 hy
    exact (ze7 hk (h x hx)).2 y hxy
  rcases zbG k l with ⟨p, e1, e2⟩ | ⟨_, e2⟩
  · rw [e2]; exact h2 p (by rw [e1]; exact List.mem_cons_self)
  · rw [e2]; exact zhG hk h1 h2
theorem zfu {b : Pt} (h : shapeP b = true) : ∀ n : Nat, shapeP (tailP b n) = true
  | 0 => zcC (.inl rfl) h
  | n + 1 => zcC (.inl rfl) (zdP (.inl rfl) (by simp) fun x hx => by
    rcases List.mem_cons.1 hx with rfl | hx
    · exact h
    · obtain rfl := List.mem_singleton.1 hx; exact zfu h n)
theorem zd2 : ∀ p : Pt, rightP p = true → shapeP (normal p) = true := Pt.ind fun p ih h => by
  have hr := za3 h
  rcases zbF h with hk | hk | hk | hk | hk
  · rw [za1 (.inl hk), zbT, if_pos (.inl hk), zbY h (.inl hk)]; rfl
  · rw [za1 (.inr hk), zbT, if_pos (.inr hk), zbY h (.inr hk)]; rfl
  rotate_left 2
  · obtain ⟨⟨k, hkk, hkr⟩, h1, h2, h3⟩ := za6 h hk
    rw [zby hk hkk]
    have hf := ih k (by rw [hkk]; exact List.mem_cons_self) hkr
    refine zdP (.inl rfl) (fun e => ?_) fun x hx => ?_
    · obtain ⟨e1, e2⟩ := List.append_eq_nil_iff.1 e
      rw [List.replicate_eq_nil_iff] at e1
      unfold moreP at e2
      split at e2
      · cases e2
      · split at e2
        · cases e2
        · omega
    · rcases List.mem_append.1 hx with hx | hx
      · rw [(List.mem_replicate.1 hx).2]; exact hf
      · unfold moreP at hx
        split at hx
        · obtain rfl := List.mem_singleton.1 hx; exact zcC (.inr rfl) hf
        · split at hx
          · obtain rfl := List.mem_singleton.1 hx; exact zfu hf _
          · cases hx
  all_goals
    rw [zbq (by omega)]
    refine zdP (by omega) (by simpa using (zb0 h (by omega)).1) fun x hx => ?_
    obtain ⟨y, hy, rfl⟩ := List.mem_map.1 hx
    exact ih y hy (hr y hy)
structure GrowM (n : Nat) (m m' : Mach) : Prop where
  el : m'.elems.length ≤ m.elems.length + n
  mv : m'.moves.length ≤ m.moves.length + 2 * n
  st : m.states ≤ m'.states ∧ m'.states ≤ m.states + n
theorem zcg : ∀ (p : Pt) (s t : Int) (m : Mach), shapeP p = true → GrowM (nodesP p) m (layM p s t m) ∧ (layM p s t m).states + 1 ≤ m.states + nodesP p := Pt.ind fun p ih s t m hs => by
  have hsk := zbv hs
  have hnp := zbf p
  have hup : ∀ (l : List Pt), (∀ k ∈ l, k ∈ p.kids) → ∀ (x : Int × Mach), GrowM (l.map nodesP).sum x.2 (l.foldl upP x).2 := by
    intro l
    induction l with
    | nil => intro _ x; exact ⟨Nat.le_refl _, Nat.le_refl _, Int.le_refl _, by simp⟩
    | cons k l ihl =>
      intro hl x
      rw [List.foldl_cons, List.map_cons, List.sum_cons]
      obtain ⟨⟨a1, a2, a3, _⟩, a4⟩ := ih k (hl k List.mem_cons_self) x.1 x.2.states (stM x.2) (hsk k (hl k List.mem_cons_self))
      obtain ⟨b1, b2, b3, b4⟩ := ihl (fun y hy => hl y (List.mem_cons_of_mem _ hy)) (upP x k)
      simp only [upP, upM] at b1 b2 b3 b4
      simp only [stM] at a1 a2 a3 a4
      simp only [upP, upM, stM] at b1 b2 b3 b4 ⊢
      exact ⟨by omega, by omega, by omega, by omega⟩
  have halt : ∀ (l : List Pt), (∀ k ∈ l, k ∈ p.kids) → ∀ (m : Mach), GrowM (l.map nodesP).sum m (l.foldl (fun m k => layM k s t m) m) := by
    intro l
    induction l with
    | nil => intro _ x; exact ⟨Nat.le_refl _, Nat.le_refl _, Int.le_refl _, by simp⟩
    | cons k l ihl =>
      intro hl x
      rw [List.foldl_cons, List.map_cons, List.sum_cons]
      obtain ⟨⟨a1, a2, a3, _⟩, a4⟩ := ih k (hl k List.mem_cons_self) s t x (hsk k (hl k List.mem_cons_self))
      obtain ⟨b1, b2, b3, b4⟩ := ihl (fun y hy => hl y (List.mem_cons_of_mem _ hy)) (layM k s t x)
      exact ⟨by omega, by omega, by omega, by omega⟩
  rcases zbC hs with ⟨hk, hk0⟩ | ⟨hk, hne⟩ | ⟨hk, ⟨k, hkk⟩, hm⟩
  · rw [zb9 hk, hnp, hk0]
    simp only [elM, mvM, List.map_nil, List.sum_nil, Nat.add_zero]
    exact ⟨⟨by simp, by simp, by refine ⟨Int.le_refl _, ?_⟩; show m.states ≤ m.states + _; omega⟩, by show m.states + 1 ≤ m.states + _; omega⟩
  · by_cases h3 : p.kind = 3
    · have hlen : 0 < p.kids.length := List.length_pos_iff.2 hne
      obtain ⟨k, hkl⟩ : ∃ k, p.kids[p.kids.length - 1]? = some k := ⟨_, List.getElem?_eq_getElem (by omega)⟩
      rw [zc1 h3 hkl]
      have h1 := hup (p.kids.take (p.kids.length - 1)) (fun y hy => List.mem_of_mem_take hy) (s, m)
      have hm := List.mem_of_getElem? hkl
      obtain ⟨⟨a1, a2, a3, _⟩, a4⟩ := ih k hm ((p.kids.take (p.kids.length - 1)).foldl upP (s, m)).1 t ((p.kids.take (p.kids.length - 1)).foldl upP (s, m)).2 (hsk k hm)
      obtain ⟨b1, b2, b3, b4⟩ := h1
      have hsum : (p.kids.map nodesP).sum = ((p.kids.take (p.kids.length - 1)).map nodesP).sum + nodesP k := by
        conv => lhs; rw [← List.take_append_drop (p.kids.length - 1) p.kids]
        rw [List.map_append, List.sum_append]
        congr 1
        rw [List.drop_eq_getElem_cons (by omega), (List.getElem?_eq_some_iff.1 hkl).2, List.drop_eq_nil_of_le (by omega)]
        simp
      simp only at b1 b2 b3 b4
      exact ⟨⟨by omega, by omega, by omega, by omega⟩, by omega⟩
    · rw [zcY (by omega)]
      obtain ⟨b1, b2, b3, b4⟩ := halt p.kids (fun _ h => h) m
      exact ⟨⟨by omega, by omega, by omega, by omega⟩, by omega⟩
  · have hnk : nodesP p = 1 + nodesP k := by rw [hnp, hkk]; simp
    have hmem : k ∈ p.kids := by rw [hkk]; exact List.mem_cons_self
    rcases hm with hm | hm
    · rw [zc0 hk hkk hm]
      obtain ⟨⟨a1, a2, a3, _⟩, a4⟩ := ih k hmem s t (mvM s t (-1) m) (hsk k hmem)
      simp only [mvM, List.length_append, List.length_singleton] at a1 a2 a3 a4 ⊢
      exact ⟨⟨by omega, by omega, by omega, by omega⟩, by omega⟩
    · rw [zb7 hk hkk (by omega)]
      obtain ⟨⟨a1, a2, a3, _⟩, a4⟩ := ih k hmem m.states m.states (mvM s m.states (-1) (stM m)) (hsk k hmem)
      simp only [mvM, stM, List.length_append, List.length_singleton] at a1 a2 a3 a4
      refine ⟨⟨?_, ?_, ?_, ?_⟩, ?_⟩ <;> simp only [mvM, stM, List.length_append, List.length_singleton] <;> omega
def fits (n : Nat) (m : Mach) : Prop := m.elems.length + n ≤ 20000 ∧ m.moves.length + 2 * n ≤ 40000 ∧ 0 ≤ m.states ∧ m.states + n ≤ 20002
theorem zbK {n n' : Nat} {m : Mach} (h : fits n m) (hn : n' ≤ n) : fits n' m := by unfold fits at *; omega
theorem zkD {n : Nat} {p : Pt} {s t : Int} {m : Mach} (hs : shapeP p = true) (h : fits (nodesP p + n) m) : fits n (layM p s t m) := by
  obtain ⟨⟨a1, a2, a3, a4⟩, _⟩ := zcg p s t m hs
  unfold fits at *; omega
theorem zk2 {n : Nat} {k : Pt} {x : Int × Mach} (hs : shapeP k = true) (h : fits (nodesP k + n) x.2) : fits n (upP x k).2 := by
  obtain ⟨⟨a1, a2, a3, a4⟩, a5⟩ := zcg k x.1 x.2.states (stM x.2) hs
  simp only [upP, upM, stM] at *
  unfold fits at *; omega
theorem zj2 (l : List Pt) (hs : ∀ k ∈ l, shapeP k = true) : ∀ (n : Nat) (x : Int × Mach), fits ((l.map nodesP).sum + n) x.2 → fits n (l.foldl upP x).2 := by
  induction l with
  | nil => intro n x h; simpa using h
  | cons k l ih =>
    intro n x h
    rw [List.foldl_cons]
    refine ih (fun y hy => hs y (List.mem_cons_of_mem _ hy)) n _ (zk2 (hs k List.mem_cons_self) ?_)
    rw [List.map_cons, List.sum_cons] at h
    rwa [← Nat.add_assoc]
theorem zjE {s t : Int} (l : List Pt) (hs : ∀ k ∈ l, shapeP k = true) : ∀ (n : Nat) (m : Mach), fits ((l.map nodesP).sum + n) m → fits n (l.foldl (fun m k => layM k s t m) m) := by
  induction l with
  | nil => intro n x h; simpa using h
  | cons k l ih =>
    intro n x h
    rw [List.foldl_cons]
    refine ih (fun y hy => hs y (List.mem_cons_of_mem _ hy)) n _ (zkD (hs k List.mem_cons_self) ?_)
    rw [List.map_cons, List.sum_cons] at h
    rwa [← Nat.add_assoc]
theorem zf2 {f : Pt → Nat} : ∀ {l : List Pt} {i : Nat} {q : Pt}, l[i]? = some q → ((l.take i).map f).sum + f q ≤ (l.map f).sum
  | x :: l, 0, q, h => by
    simp only [List.getElem?_cons_zero, Option.some.injEq] at h
    subst h
    simp
  | x :: l, i + 1, q, h => by
    have := zf2 (f := f) (l := l) (i := i) (q := q) (by simpa using h)
    simp only [List.take_succ_cons, List.map_cons, List.sum_cons]; omega
theorem zhQ {n : Nat} {m : Mach} (h : fits (n + 1) m) : fits n (stM m) := by
  obtain ⟨h1, h2, h3, h4⟩ := h
  exact ⟨by show m.elems.length + n ≤ _; omega, by show m.moves.length + 2 * n ≤ _; omega, by show 0 ≤ m.states + 1; omega, by show m.states + 1 + n ≤ _; omega⟩
theorem zhV {n : Nat} {m : Mach} {s t e : Int} (h : fits (n + 1) m) : fits n (mvM s t e m) := by
  obtain ⟨h1, h2, h3, h4⟩ := h
  exact ⟨by show m.elems.length + n ≤ _; omega, by show (m.moves ++ _).length + 2 * n ≤ _; rw [List.length_append, List.length_singleton]; omega, h3, by show m.states + n ≤ _; omega⟩
theorem zdo {p q : Pt} {s t : Int} {m : Mach} (hs : shapeP p = true) {i : Nat} (hq : p.kids[i]? = some q) (h : fits (nodesP p) m) : fits (nodesP q + 1) ((p.kids.take i).foldl upP (s, m)).2 ∧ fits (nodesP q + 1) ((p.kids.take i).foldl (fun m k => layM k s t m) m) := by
  have h1 := zf2 (f := nodesP) hq
  have h2 := zbf p
  have hk : ∀ k ∈ p.kids.take i, shapeP k = true := fun k hk => zbv hs k (List.mem_of_mem_take hk)
  exact ⟨zj2 _ hk _ (s, m) (zbK h (by omega)), zjE _ hk _ m (zbK h (by omega))⟩
def buildM (p : Pt) : Mach := layM p 0 1 ⟨[], [], 2⟩
end Go.Proofs.YtjhkehloipmjfaaGreat
