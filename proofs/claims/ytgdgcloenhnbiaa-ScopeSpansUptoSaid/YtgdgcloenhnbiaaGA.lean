/- A text in an element of a slice of one's own is written anew: what does not hold the old text stays as it is. -/
import Derived.Test.YtgdgcloenhnbiaaMB
import Derived.Test.YtgdgcloenhnbiaaG7
/- A function without arguments, walked with nothing settled: whatever is settled later is new. -/
namespace Go.Proofs.Ytgdgcloenhnbiaa
open Go.RowKit
section
variable {X : Ctx} {γ : Nat → Nat} {T : Nat → Value} {S : Nat → Nat → Prop} {w : World} {fr : Fr} {σ : Obs}
theorem callsV_of_W0 {P : Program} {Ty : TypeId → Option TyI} {f : FuncId} {fn : Func} {c : Code} {y : VV} (hT : ∀ t i, Ty t = some i → TyOK P t i)
    (hf : P.funcs[f]? = some fn) (hname : (fn.name == "runtime.NumGoroutine") = false) (hb : fn.body = some c)
    (h : ∀ w0 : W0, (∀ k, w0.pin k = none) → W (ctx P Ty fn.ntmps w0 (fun _ _ => False)) c [] [] (EndQ (ctx P Ty fn.ntmps w0 (fun _ _ => False)) fn.results.toList (.val y))) : CallsV P f [] (.val y) := by
  have hent : Enters P f := fun xs w => by
    have h1 : fn.name ≠ "runtime.NumGoroutine" := by simpa using hname
    simp [callFunc, hf, h1, hb]
  refine ⟨hent, fun S w vs ha lt => calls_of_wp hf hb ?_⟩
  have hvs : vs = [] := List.length_eq_zero_iff.1 ha.1
  subst hvs
  have hr : Rel (ctx P Ty fn.ntmps (.of w) (fun _ _ => False)) (fun _ => 0) (fun _ => undef) (fun _ _ => False) w [] [] { tmps := ([] : List Value).toArray ++ Array.replicate (fn.ntmps - ([] : List Value).toArray.size) undef, defers := [] } :=
    ⟨⟨.refl _ _, fun _ _ h => h.elim, fun b hb => hb, fun b o hs => hs.elim, ⟨fun _ _ hs => hs, fun _ _ _ _ h => h⟩, fun k o ho => by simp [look] at ho, fun k k' o o' ho => by simp [look] at ho⟩, fun t x hx => by simp [look] at hx, by simp [ctx], rfl⟩
  refine Code.wp_mono (fun e a' w' hq => ?_) ((h (.of w) (fun _ => rfl)).out _ _ _ _ _ hr)
  obtain ⟨γ, T, S', fr, σ, hr', hq⟩ := hq
  have hbel : Below w.heap.size w w' := ⟨hr'.st.keep.os, hr'.st.keep.tape, hr'.st.keep.output, hr'.st.keep.size, fun k hk => hr'.st.keep.block k hk hk⟩
  have hnew : ∀ b o, (S b o ∨ S' b o) → S b o ∨ (w.heap.size ≤ b ∧ b < w'.heap.size) := fun b o hs => hs.imp id fun hs => ⟨Nat.le_of_not_lt ((hr'.st.set b o hs).resolve_left id), hr'.st.lt b o hs⟩
  have hfin : RetOK (ctx P Ty fn.ntmps (.of w) (fun _ _ => False)) fn.results.toList (.val y) fr σ → ∃ v, (results fn a'.tmps).run P w' = .ok v w' ∧ ∃ v' S', Ending.returned v = .returned v' ∧ Below w.heap.size w w' ∧ (∀ b o, S b o → S' b o) ∧ (∀ b o, S' b o → S b o ∨ (w.heap.size ≤ b ∧ b < w'.heap.size)) ∧ ResR S' w w' v' (.val y) := by
    intro hok
    obtain ⟨x, hx1, hx2⟩ := Option.bind_eq_some_iff.1 hok
    obtain ⟨v, g1, g2⟩ := retV_sound (X := ctx P Ty fn.ntmps (.of w) (fun _ _ => False)) hT hr' hx1
    have hpv := dataV_sound hx2 g2
    exact ⟨v, g1, v, fun b o => S b o ∨ S' b o, rfl, hbel, fun _ _ h => .inl h, hnew, fun γ T => (hpv γ T).mono (fun _ _ h => .inr h) (fun _ _ _ _ h => h)⟩
  cases e with
  | normal => obtain ⟨v, g1, g2⟩ := hfin hq; exact ⟨hr'.df, v, g1, g2⟩
  | ret => obtain ⟨v, g1, g2⟩ := hfin hq; exact ⟨hr'.df, v, g1, g2⟩
  | exit id => exact hq.elim
  | goto l => exact hq.elim
  | panic ch => exact hq.elim
  | outgrown => exact hq.elim
end
end Go.Proofs.Ytgdgcloenhnbiaa
/- Data stays settled where one cell is written that it does not meet: it holds another text. -/
namespace Go.Proofs.Ytgdgcloenhnbiaa
open Go.RowKit
inductive NoX (x0 : Value) : D → Prop
  | v (y : Value) : NoX x0 (.v y)
  | sl (rows : List (List D)) (h1 : ∀ (i : Nat) (q : List D), rows[i]? = some q → ∀ (j : Nat) (d : D), q[j]? = some d → d ≠ .v x0) (h2 : ∀ (i : Nat) (q : List D), rows[i]? = some q → ∀ (j : Nat) (d : D), q[j]? = some d → NoX x0 d) : NoX x0 (.sl rows)
theorem RD.text {S : Nat → Nat → Prop} {w : World} {d : D} {s : ByteArray} (h : RD S w d (.string s)) : d = .v (.string s) := by
  cases h with | v _ _ => rfl
theorem RD.avoid {S : Nat → Nat → Prop} {w w' : World} {g p : Nat} {s : ByteArray} (hA : w.cell? ⟨g, p, none⟩ = some (.string s)) (hk : ∀ b o x, S b o → ¬ (b = g ∧ o = p) → w.cell? ⟨b, o, none⟩ = some x → w'.cell? ⟨b, o, none⟩ = some x) :
    ∀ {d : D} {u : Value}, RD S w d u → NoX (.string s) d → RD (fun b o => S b o ∧ ¬ (b = g ∧ o = p)) w' d u := by
  intro d u h
  induction h with
  | v x hx => intro _; exact .v x hx
  | sl rows A c sz vs cap lim nil row val spot mem ih =>
    intro hn
    cases hn with
    | sl _ hn hn2 =>
      refine .sl rows A c sz vs cap lim nil row (fun i q hq j x hx => ih i q hq j x hx (hn2 i q hq j x hx)) spot fun a ha i hi j hj => ?_
      obtain ⟨h1, h2⟩ := mem a ha i hi j hj
      have hq : rows[i]? = some rows[i] := List.getElem?_eq_getElem hi
      have hl := row i _ hq
      have hx : rows[i][j]? = some (rows[i][j]'(by omega)) := List.getElem?_eq_getElem (by omega)
      have hne : ¬ (a.block = g ∧ a.off + (i * sz + j) = p) := by
        rintro ⟨e1, e2⟩
        rw [e1, e2, hA] at h2
        injection h2 with h2
        have h3 := val i _ hq j _ hx
        rw [← h2] at h3
        exact hn i _ hq j _ hx h3.text
      exact ⟨⟨h1, hne⟩, hk _ _ _ h1 hne h2⟩
  | pi cs a vs spot val mem ih => intro hn; cases hn
  | fn g caps us len val ih => intro hn; cases hn
end Go.Proofs.Ytgdgcloenhnbiaa
namespace Go.Proofs.Ytgdgcloenhnbiaa
open Go.RowKit
theorem look2 {α : Type} {k1 k2 k : Nat} {x y z : α} (h : look [(k1, x), (k2, y)] k = some z) : (k = k1 ∧ z = x) ∨ (k = k2 ∧ z = y) := by
  simp only [look] at h
  split at h
  · rename_i e; injection h with h; exact .inl ⟨e.symm, h.symm⟩
  · split at h
    · rename_i e; injection h with h; exact .inr ⟨e.symm, h.symm⟩
    · cases h
section
variable {X : Ctx} {γ : Nat → Nat} {T : Nat → Value} {S : Nat → Nat → Prop} {w : World} {fr : Fr} {σ : Obs} {a : Act} {ops : Array Oper} {rest : List Oper} {Q : Fr → Obs → Prop}
theorem keep_rel {k1 k2 : Nat} {ty e : TypeId} {sz : Nat} {cs cs' : List C} {w' : World} (hr : Rel X γ T S w fr σ a) (hk1 : look σ k1 = some (.obj ty cs)) (hk2 : look σ k2 = some (.tok e sz))
    (hkeep : Keep X.N w w') (hkp : Kp X.S0 X.w0 w') (h1 : RO X γ T S w' k1 (.obj ty cs')) (h2 : RO X γ T S w' k2 (.tok e sz)) (hsz : w'.heap.size = w.heap.size) : Rel X γ T S w' (keepF fr) [(k1, .obj ty cs'), (k2, .tok e sz)] a := by
  refine ⟨⟨hr.st.keep.trans hkeep, fun b o hs => by rw [hsz]; exact hr.st.lt b o hs, hr.st.nlt, hr.st.set, ⟨hr.st.mon.1, hkp⟩, fun k ob hl => ?_, fun k k' ob ob' hl hl' hkk b hb hb' => ?_⟩, fun t y hy => ?_, hr.nt, hr.df⟩
  · rcases look2 hl with ⟨rfl, rfl⟩ | ⟨rfl, rfl⟩
    · exact h1
    · exact h2
  · rcases look2 hl with ⟨rfl, rfl⟩ | ⟨rfl, rfl⟩ <;> rcases look2 hl' with ⟨rfl, rfl⟩ | ⟨rfl, rfl⟩
    · exact hkk rfl
    · exact hr.st.dis _ _ _ _ hk1 hk2 hkk b hb hb'
    · exact hr.st.dis _ _ _ _ hk2 hk1 hkk b hb hb'
    · exact hkk rfl
  · obtain ⟨x, h3, h4⟩ := look_keepF hy
    rcases h4 with ⟨h5, rfl⟩ | rfl
    · exact scalar_any h5 (hr.fr t _ h3)
    · exact .junk _
/-- a cell of which the old text is no part -/
def noxC (k2 : Nat) (rows : List (List D)) (x0 : Value) : C → Prop
  | .d x => NoX x0 x
  | .own k r => k = k2 ∧ r = rows
  | _ => False
def newC (rows' : List (List D)) : C → C
  | .own k _ => .own k rows'
  | c => c
theorem RL_kw (hT : Good X) {o2 o3 o4 : Oper} {d2 d3 k1 k2 f fo s sz : Nat} {ty e t2 t3 t4 : TypeId} {xx : Operand} {i2 e2 i3 i4 : TyI} {cs : List C} {rows : List (List D)} {q : List D} {x0 x1 : ByteArray} (hS0 : ∀ b o, ¬ X.S0 b o)
    (hx : ev fr xx = some (.one (.own k2 rows))) (hk1 : look σ k1 = some (.obj ty cs)) (hk2 : look σ k2 = some (.tok e sz))
    (hw2 : wantA ops o2 fr = some true) (hd2 : o2.dst = some d2) (hb2 : Nat.blt d2 X.nt = true) (ho2 : o2.op = .indexAddr t2 xx (.const (.int .i64 0))) (hi2 : X.Ty t2 = some i2) (ht2 : i2.tag = 2) (he2 : X.Ty i2.elem = some e2) (hq : rows[0]? = some q) (hql : q.length = e2.size)
    (hw3 : wantA ops o3 ((d2, .junk) :: fr) = some true) (hd3 : o3.dst = some d3) (hb3 : Nat.blt d3 X.nt = true) (ho3 : o3.op = .fieldAddr t3 (.tmp d2) f) (hi3 : X.Ty t3 = some i3) (ht3 : i3.tag = 1) (hpl : i3.places[f]? = some (fo, s)) (hs : s ≠ 0)
    (hw4 : wantA ops o4 ((d3, .junk) :: (d2, .junk) :: fr) = some true) (hd4 : o4.dst = none) (ho4 : o4.op = .store t4 (.tmp d3) (.const (.string x1))) (hi4 : X.Ty t4 = some i4) (hz4 : i4.size = 1)
    (hold : q[fo]? = some (.v (.string x0)))
    (hn : ∀ c ∈ cs, noxC k2 rows (.string x0) c) (hnr : ∀ (i : Nat) (r : List D), rows[i]? = some r → ∀ (j : Nat) (x : D), r[j]? = some x → ¬ (i = 0 ∧ j = fo) → x ≠ .v (.string x0) ∧ NoX (.string x0) x)
    (h : RL X ops rest (keepF ((d3, .junk) :: (d2, .junk) :: fr)) [(k1, .obj ty (cs.map (newC (rows.set 0 (q.set fo (.v (.string x1))))))), (k2, .tok e sz)] Q) : RL X ops (o2 :: o3 :: o4 :: rest) fr σ Q :=
  ⟨fun γ T S w a K hr hk => wpList_step fun K1 hK1 => by
    have hv := ev_sound hr hx
    have htok := hr.st.obj k2 _ hk2
    have hobj := hr.st.obj k1 _ hk1
    generalize hev : a.eval xx = v at hv
    cases hv with
    | one hv =>
    obtain ⟨hrd, hT2⟩ := hv
    obtain ⟨n, xs, hown, hfree⟩ := htok
    have hpos : 0 < rows.length := (List.getElem?_eq_some_iff.1 hq).1
    cases hrd with
    | sl _ A c sz' vs cap lim nil row val spot mem =>
    cases A with
    | none => rw [nil rfl] at hpos; simp at hpos
    | some ad =>
    have hsz' : sz' = q.length := (row 0 q hq).symm
    rw [hT2] at hown
    rcases hown with ⟨hlen, hown⟩
    rcases hown with ⟨hbad, _⟩ | ⟨g, cp, cur, hv1, _, hblk, hncap, hcmax, hcsz, htake⟩
    · injection hbad with hbad; cases hbad
    injection hv1 with hv1 hv2 hv3
    injection hv1 with hv1
    subst hv1; subst hv3
    have hgfree := hfree g (by rw [hT2]; rfl)
    have hfol : fo < q.length := (List.getElem?_eq_some_iff.1 hold).1
    -- the element
    obtain ⟨inf2, dd2, a1, a2, a3, a4, a5, a6, a7, a8, a9, a10⟩ := (hT t2 i2 hi2).get
    obtain ⟨inf2', dd2', b1, b2, b3, _⟩ := (hT _ e2 he2).get
    rw [ht2] at a10
    cases dd2 with
    | slice el =>
      simp only [elemOfD] at a7
      subst a7
      rw [if_pos (wantA_sound hr hw2)]
      have hex2 : (execOp a.eval o2).run X.P w = .ok (.value (.pointer (some ⟨g, 0, none⟩))) w := by
        have h0 : a.eval (.const (.int .i64 0)) = .int .i64 0 := rfl
        simp only [execOp, ho2, hev, h0, Instr.indexAt, asIntOf, Sem.run_bind, Sem.run_pure, run_underlying a2, Result.andThen_ok]
        rw [if_pos ⟨by omega, by omega⟩]
        simp only [Sem.run_bind, run_size b1, Result.andThen_ok, Sem.run_pure, Addr.add_lit]
        simp
      unfold Oper.wp
      rw [hex2]
      have r1 : Rel X γ T S w ((d2, .junk) :: fr) σ (a.put o2.dst (.pointer (some ⟨g, 0, none⟩))) := by
        rw [hd2]; exact hr.put (dst := some d2) hb2 (.junk _)
      refine hK1 _ _ (wpList_step fun K2 hK2 => ?_)
      rw [if_pos (wantA_sound r1 hw3)]
      have hev2 : (a.put o2.dst (.pointer (some ⟨g, 0, none⟩))).eval (.tmp d2) = .pointer (some ⟨g, 0, none⟩) := by
        rw [hd2]; exact put_eval (by rw [hr.nt]; simpa [Nat.blt_eq] using hb2)
      have hfld := run_field hT hi3 ht3 hpl hs w g 0
      have hex3 : (execOp (a.put o2.dst (.pointer (some ⟨g, 0, none⟩))).eval o3).run X.P w = .ok (.value (.pointer (some ⟨g, fo, none⟩))) w := by
        rw [Nat.zero_add] at hfld
        simp only [execOp, ho3, hev2, Sem.run_bind, hfld, Result.andThen_ok, Sem.run_pure]
      unfold Oper.wp
      rw [hex3]
      have r2 : Rel X γ T S w ((d3, .junk) :: (d2, .junk) :: fr) σ ((a.put o2.dst (.pointer (some ⟨g, 0, none⟩))).put o3.dst (.pointer (some ⟨g, fo, none⟩))) := by
        rw [hd3]; exact r1.put (dst := some d3) hb3 (.junk _)
      refine hK2 _ _ (wpList_step fun K3 hK3 => ?_)
      rw [if_pos (wantA_sound r2 hw4)]
      have hev3 : ((a.put o2.dst (.pointer (some ⟨g, 0, none⟩))).put o3.dst (.pointer (some ⟨g, fo, none⟩))).eval (.tmp d3) = .pointer (some ⟨g, fo, none⟩) := by
        rw [hd3]; exact put_eval (by rw [r1.nt]; simpa [Nat.blt_eq] using hb3)
      have hevx : ((a.put o2.dst (.pointer (some ⟨g, 0, none⟩))).put o3.dst (.pointer (some ⟨g, fo, none⟩))).eval (.const (.string x1)) = .string x1 := rfl
      have hfosz : fo < cur.size := by
        have h1 := (mem _ rfl 0 hpos fo (by rw [hsz']; exact hfol)).2
        simp only [Nat.zero_mul, Nat.zero_add] at h1
        simp only [World.cell?, hblk] at h1
        exact (Array.getElem?_eq_some_iff.1 h1).1
      obtain ⟨inf4, dd4, c1, c2, c3, c4, _⟩ := (hT t4 i4 hi4).get
      have hst : (storeVar t4 ⟨g, fo, none⟩ (.string x1)).run X.P w = .ok () (w.setRow g (cur.toList.take fo ++ [Value.string x1] ++ cur.toList.drop (fo + 1)).toArray) := by
        have := run_storeCells_at X.P g fo e [.string x1] 0 cur w hblk (by simp; omega) (by intro v hv; simp at hv; subst hv; rfl)
        simp only [Nat.add_zero] at this
        have hsz1 : (Value.string x1).cells.size = inf4.size := by rw [c3, hz4]; rfl
        simp only [storeVar, Sem.run_bind, run_size c1, Result.andThen_ok, hsz1, ne_eq, not_true, if_false]
        exact this
      have hex4 : (execOp ((a.put o2.dst (.pointer (some ⟨g, 0, none⟩))).put o3.dst (.pointer (some ⟨g, fo, none⟩))).eval o4).run X.P w = .ok .skip (w.setRow g (cur.toList.take fo ++ [Value.string x1] ++ cur.toList.drop (fo + 1)).toArray) := by
        simp only [execOp, ho4, hev3, hevx, Instr.storeAt, Instr.sureAddr, Sem.run_bind, Sem.run_pure, Result.andThen_ok, hst]
      unfold Oper.wp
      rw [hex4]
      generalize hrow' : (cur.toList.take fo ++ [Value.string x1] ++ cur.toList.drop (fo + 1)).toArray = cur' at *
      have hcur' : ∀ i, cur'[i]? = if i = fo then some (.string x1) else cur[i]? := fun i => by
        rw [← hrow', List.getElem?_toArray]
        have e1 : cur.toList.take fo ++ [Value.string x1] ++ cur.toList.drop (fo + 1) = cur.toList.set fo (.string x1) := by
          rw [List.set_eq_take_append_cons_drop, if_pos (by simpa using hfosz)]; simp
        rw [e1, List.getElem?_set]
        by_cases e2 : i = fo
        · subst e2; simp [hfosz]
        · rw [if_neg (fun h => e2 h.symm), if_neg e2]; simp
      have hsize' : cur'.size = cur.size := by rw [← hrow']; simp; omega
      have hblk' : (w.setRow g cur').heap[g]? = some (.cells cur' e (0, 0)) := setRow_heap w _ _ _ _ _ hblk
      have hother : ∀ b, b ≠ g → (w.setRow g cur').heap[b]? = w.heap[b]? := fun b hb => setRow_other w _ _ _ hb
      have hA : w.cell? ⟨g, fo, none⟩ = some (.string x0) := by
        have h1 := mem _ rfl 0 hpos fo (by rw [hsz']; exact hfol)
        simp only [Nat.zero_mul, Nat.zero_add] at h1
        rw [h1.2]
        have h2 := val 0 q hq fo _ hold
        generalize vs 0 fo = u at h2
        cases h2; rfl
      have hcell : ∀ b o x, ¬ (b = g ∧ o = fo) → w.cell? ⟨b, o, none⟩ = some x → (w.setRow g cur').cell? ⟨b, o, none⟩ = some x := fun b o x hne hc => by
        by_cases hb : b = g
        · subst hb
          rw [cell_of_row (w.setRow _ cur') _ _ _ _ _ hblk', hcur', if_neg (fun e => hne ⟨rfl, e⟩)]
          rwa [cell_of_row w _ _ _ _ _ hblk] at hc
        · rw [World.cell?_of_block (hother b hb)]; exact hc
      have hav : ∀ {d : D} {u : Value}, RD S w d u → NoX (.string x0) d → RD S (w.setRow g cur') d u := fun hd hnx =>
        (RD.avoid (S := S) (w' := w.setRow g cur') hA (fun b o x _ hne hc => hcell b o x hne hc) hd hnx).mono (fun _ _ h => h.1) .refl
      have hrd' : RD S (w.setRow g cur') (.sl (rows.set 0 (q.set fo (.v (.string x1))))) (.slice (some ⟨g, 0, none⟩) rows.length c) := by
        have e0 : rows.length = (rows.set 0 (q.set fo (.v (.string x1)))).length := by rw [List.length_set]
        have hrow : ∀ (i : Nat) (r : List D), (rows.set 0 (q.set fo (.v (.string x1))))[i]? = some r → ∃ r0, rows[i]? = some r0 ∧ r.length = r0.length ∧ ∀ (j : Nat) (x : D), r[j]? = some x → (i = 0 ∧ j = fo ∧ x = .v (.string x1)) ∨ (¬ (i = 0 ∧ j = fo) ∧ r0[j]? = some x) := fun i r hr => by
          rw [List.getElem?_set] at hr
          by_cases hi : i = 0
          · subst hi
            rw [if_pos rfl, if_pos hpos] at hr
            injection hr with hr; subst hr
            refine ⟨q, hq, by rw [List.length_set], fun j x hx => ?_⟩
            rw [List.getElem?_set] at hx
            by_cases hj : fo = j
            · subst hj; rw [if_pos rfl, if_pos hfol] at hx; injection hx with hx; exact .inl ⟨rfl, rfl, hx.symm⟩
            · rw [if_neg hj] at hx; exact .inr ⟨fun h => hj h.2.symm, hx⟩
          · rw [if_neg (fun h => hi h.symm)] at hr
            exact ⟨r, hr, rfl, fun j x hx => .inr ⟨fun h => hi h.1, hx⟩⟩
        rw [e0]
        refine .sl _ _ c sz' (fun i j => if i = 0 ∧ j = fo then .string x1 else vs i j) (by rw [← e0]; exact cap) (by rw [← e0]; exact lim) (fun h => by cases h) (fun i r hr => ?_) (fun i r hr j x hx => ?_) (fun _ ha _ => by injection ha with ha; subst ha; rfl) fun ad ha i hi j hj => ?_
        · obtain ⟨r0, h1, h2, _⟩ := hrow i r hr; rw [h2]; exact row i r0 h1
        · obtain ⟨r0, h1, h2, h3⟩ := hrow i r hr
          rcases h3 j x hx with ⟨rfl, rfl, rfl⟩ | ⟨hne, hx0⟩
          · rw [if_pos ⟨rfl, rfl⟩]; exact .v _ rfl
          · rw [if_neg hne]
            exact hav (val i r0 h1 j x hx0) (hnr i r0 h1 j x hx0 hne).2
        · injection ha with ha; subst ha
          rw [List.length_set] at hi
          obtain ⟨m1, m2⟩ := mem _ rfl i hi j hj
          refine ⟨m1, ?_⟩
          simp only [Nat.zero_add] at m2 ⊢
          have hrlt : rows[i]? = some rows[i] := List.getElem?_eq_getElem hi
          by_cases hne : i = 0 ∧ j = fo
          · obtain ⟨rfl, rfl⟩ := hne
            rw [if_pos ⟨rfl, rfl⟩, Nat.zero_mul, Nat.zero_add, cell_of_row (w.setRow _ cur') _ _ _ _ _ hblk', hcur', if_pos rfl]
          · rw [if_neg hne]
            refine hcell _ _ _ (fun hh => hne ?_) m2
            have e1 : i * sz' + j = fo := hh.2
            rw [hsz'] at e1 hj
            have hi0 : i = 0 := by
              rcases Nat.eq_zero_or_pos i with h0 | h0
              · exact h0
              · exfalso
                have : 1 * q.length ≤ i * q.length := Nat.mul_le_mul_right _ h0
                omega
            subst hi0
            exact ⟨rfl, by omega⟩
      have hgk1 : γ k1 ≠ g := fun e => by
        have hne : k1 ≠ k2 := fun e => by subst e; rw [hk1] at hk2; cases hk2
        exact hr.st.dis k1 k2 _ _ hk1 hk2 hne (γ k1) rfl (by show (T k2).ownBlock = some (γ k1); rw [hT2, e]; rfl)
      refine hK3 _ _ (h.out γ T S _ _ K ?_ hk)
      rw [hd4]
      refine keep_rel r2 hk1 hk2 ⟨rfl, rfl, rfl, by simp, fun b hb _ => hother b fun e => hgfree.1 (e ▸ hb)⟩ (fun b o x hs _ => (hS0 b o hs).elim) ?_ ?_ (by simp)
      · obtain ⟨us, q1, ⟨q2, q3⟩, q4⟩ := hobj
        refine ⟨us, (hother _ hgk1).trans q1, ⟨by rw [List.length_map]; exact q2, fun j c0 hc => ?_⟩, q4⟩
        rw [List.getElem?_map, Option.map_eq_some_iff] at hc
        obtain ⟨c1, hc1, rfl⟩ := hc
        obtain ⟨u, g1, g2, g3⟩ := q3 j c1 hc1
        refine ⟨u, g1, ?_, g3⟩
        have hnx := hn c1 (List.mem_of_getElem? hc1)
        cases c1 with
        | d x => exact hav g2 hnx
        | own k r =>
          obtain ⟨rfl, rfl⟩ := hnx
          have e1 := g2.2
          rw [hT2] at e1
          exact ⟨e1 ▸ hrd', hT2.trans e1⟩
        | _ => exact hnx.elim
      · refine ⟨rows.length, (cur'.toList.take (rows.length * sz)), ⟨?_, .inr ⟨g, c, cur', by rw [hT2], Nat.zero_le _, hblk', by rw [← hv2] at hncap; exact hncap, hcmax, by rw [hsize']; exact hcsz, rfl⟩⟩, fun g' hg' => ⟨(hfree g' hg').1, fun o ho => by rw [hv2]; exact (hfree g' hg').2 o ho⟩⟩
        rw [List.length_take]
        have h1 : rows.length * sz ≤ c * sz := Nat.mul_le_mul_right _ cap
        simp only [Array.length_toList, hsize', hcsz]
        omega
    | _ => simp [tagOf] at a10⟩
end
end Go.Proofs.Ytgdgcloenhnbiaa
