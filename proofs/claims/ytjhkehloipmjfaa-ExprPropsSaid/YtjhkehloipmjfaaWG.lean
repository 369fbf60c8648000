/- Calls that write variables of the caller's: a slice of its own, held in variables that closures share. -/
import Derived.Test.YtjhkehloipmjfaaWY
namespace Go.Proofs.Ytjhkehloipmjfaa
open Go.RowKit
section
variable {X X' : Ctx} {γ γ' γ2 : Nat → Nat} {T T' T2 : Nat → Value} {S S' : Nat → Nat → Prop} {w w' : World} {fr : Fr} {σ : Obs} {a : Act} {o : Oper}
/-- what is said of an object hangs on the context by what stays, and by where it lies -/
theorem RO.cx {k : Nat} {ob : Ob} (h : RO X γ T S w k ob) (hN : ∀ b, fp γ T k ob b → ¬ X'.N b) (hp : ∀ b, X'.pin k = some b → γ k = b) : RO X' γ T S w k ob := by
  cases ob with
  | box ty cs => obtain ⟨us, h1, h2, h3, _⟩ := h; exact ⟨us, h1, h2, h3, hN _ rfl⟩
  | cell ty c => obtain ⟨u, h1, h2, h3, h4, _, _⟩ := h; exact ⟨u, h1, h2, h3, h4, hN _ rfl, hp⟩
  | tok e sz => obtain ⟨n, xs, h1, h2⟩ := h; exact ⟨n, xs, h1, fun g hg => ⟨hN g hg, (h2 g hg).2⟩⟩
  | arr e sz rows => obtain ⟨us, h1, h2, h3, h4, _, _⟩ := h; exact ⟨us, h1, h2, h3, h4, hN _ rfl, hp⟩
  | obj ty cs => obtain ⟨us, h1, h2, h3, _, _⟩ := h; exact ⟨us, h1, h2, h3, hN _ rfl, hp⟩
  | mp es => obtain ⟨ms, cl, h1, h2, h3, _, _⟩ := h; exact ⟨ms, cl, h1, h2, h3, hN _ rfl, hp⟩
  | junk => trivial
/-- the variables, and the slice that they hold -/
abbrev Cells := List (Nat × TypeId × C)
def cellsO (l : Cells) : Obs := l.map fun p => (p.1, .cell p.2.1 p.2.2)
def gO (j : Nat) (e : TypeId) (sz : Nat) (l : Cells) : Obs := (j, .tok e sz) :: cellsO l
def ictx (P : Program) (w : World) (N : Nat → Prop) (S : Nat → Nat → Prop) (pin : Nat → Option Nat) : Ctx := ⟨P, fun _ => none, 0, w, N, S, pin, fun k h => absurd h (Nat.not_lt_zero k), []⟩
def EndG (X : Ctx) (rs : List ResultVar) (j : Nat) (e : TypeId) (sz : Nat) (x : VV) (l1 : Cells) : Exit → Fr → Obs → Prop
  | .normal, fr, σ | .ret, fr, σ => (retV X fr σ rs).bind dataV = some x ∧ ∀ p ∈ gO j e sz l1, look σ p.1 = some p.2
  | _, _, _ => False
/-! ### steps -/
def argG (x : VV) : VV := match data1 x with
  | some y => y
  | none => x
def argsG (fr : Fr) : List Operand → Option (List VV)
  | [] => some []
  | x :: l => match ev fr x, argsG fr l with
    | some y, some m => some (argG y :: m)
    | _, _ => none
def ArgsGR (γ : Nat → Nat) (T : Nat → Value) (S : Nat → Nat → Prop) (w : World) (args : List VV) (vs : List Value) : Prop := vs.length = args.length ∧ ∀ (i : Nat) (y : VV) (v : Value), args[i]? = some y → vs[i]? = some v → RV γ T S w y v
theorem argG_sound {x : VV} {v : Value} (h : RV γ T S w x v) : RV γ T S w (argG x) v := by
  unfold argG
  split
  · rename_i y hy; exact data1_sound hy h γ T
  · exact h
theorem argsG_sound (hr : Rel X γ T S w fr σ a) : ∀ {l : List Operand} {m : List VV}, argsG fr l = some m → ArgsGR γ T S w m (l.map a.eval)
  | [], m, h => by simp only [argsG, Option.some.injEq] at h; subst h; exact ⟨rfl, fun i y v hy => by simp at hy⟩
  | x :: l, m, h => by
    simp only [argsG] at h
    split at h
    · rename_i y m' hy hm
      injection h with h; subst h
      obtain ⟨h1, h2⟩ := argsG_sound hr hm
      refine ⟨by simpa using h1, fun i y' v hy' hv => ?_⟩
      cases i with
      | zero =>
        simp only [List.getElem?_cons_zero, Option.some.injEq, List.map_cons] at hy' hv
        subst hy'; subst hv
        exact argG_sound (ev_sound hr hy)
      | succ i => exact h2 i y' v (by simpa using hy') (by simpa using hv)
    · cases h
theorem ArgsGR.app {x1 x2 : List VV} {v1 v2 : List Value} (h : ArgsGR γ T S w x1 v1) (k : ArgsGR γ T S w x2 v2) : ArgsGR γ T S w (x1 ++ x2) (v1 ++ v2) :=
  ⟨by rw [List.length_append, List.length_append, h.1, k.1], fun j y v hy hv => by
    by_cases hj : j < x1.length
    · rw [List.getElem?_append_left hj] at hy
      rw [List.getElem?_append_left (by rw [h.1]; exact hj)] at hv
      exact h.2 j y v hy hv
    · rw [List.getElem?_append_right (by omega)] at hy
      rw [List.getElem?_append_right (by rw [h.1]; omega), h.1] at hv
      exact k.2 _ y v hy hv⟩
def calleeG (fr : Fr) (x : Operand) : Option (FuncId × List VV) :=
  match ev fr x with
  | some (.one (.fn f caps)) => some (f, caps.map fun k => .one (.po k 0))
  | some (.one (.d (.fn f caps))) => some (f, caps.map fun q => .one (.d (.pi q)))
  | _ => none
theorem calleeG_sound (hr : Rel X γ T S w fr σ a) {x : Operand} {f : FuncId} {cs : List VV} (h : calleeG fr x = some (f, cs)) : ∃ us : List Value, a.eval x = .func (.func f) #[] us.toArray ∧ ArgsGR γ T S w cs us := by
  unfold calleeG at h
  split at h
  · rename_i g caps hx
    simp only [Option.some.injEq, Prod.mk.injEq] at h
    obtain ⟨rfl, rfl⟩ := h
    have := ev_sound hr hx
    cases this with
    | one hv =>
      refine ⟨_, hv, by simp, fun i y v hy hv => ?_⟩
      rw [List.getElem?_map, Option.map_eq_some_iff] at hy hv
      obtain ⟨k, hk, rfl⟩ := hy
      obtain ⟨k', hk', rfl⟩ := hv
      rw [hk] at hk'; injection hk' with hk'; subst hk'
      exact .one rfl
  · rename_i g caps hx
    simp only [Option.some.injEq, Prod.mk.injEq] at h
    obtain ⟨rfl, rfl⟩ := h
    have := ev_sound hr hx
    generalize a.eval x = u at this
    cases this with
    | one hv =>
      cases hv with
      | fn _ _ us len val =>
        refine ⟨us, rfl, by simp [len], fun j y v hy hv => ?_⟩
        rw [List.getElem?_map, Option.map_eq_some_iff] at hy
        obtain ⟨q, hq, rfl⟩ := hy
        exact .one (val j q v hq hv)
  · cases h
variable {ops : Array Oper} {rest : List Oper} {Q : Fr → Obs → Prop} {d : Nat}
/-! ### a variable under another key -/
def rk (k k' i : Nat) : Nat := if i = k then k' else i
def renC (k k' : Nat) : C → C
  | .d x => .d x
  | .own i r => .own (rk k k' i) r
  | .po i o => .po (rk k k' i) o
  | .fn f caps => .fn f (caps.map (rk k k'))
  | .win i lo n c sz => .win (rk k k' i) lo n c sz
  | .pe i m o sz => .pe (rk k k' i) m o sz
  | .any => .any
def renV (k k' : Nat) : VV → VV
  | .one c => .one (renC k k' c)
  | .dat cs => .dat cs
  | .tup [] => .tup []
  | .ag cs => .ag (cs.map (renC k k'))
  | _ => .junk
def renO (k k' : Nat) : Ob → Ob
  | .cell ty c => .cell ty (renC k k' c)
  | .obj ty cs => .obj ty (cs.map (renC k k'))
  | ob => ob
def renS (k k' : Nat) (σ : Obs) : Obs := (σ.filter fun p => !(p.1 == k')).map fun p => (rk k k' p.1, renO k k' p.2)
def renF (k k' : Nat) (fr : Fr) : Fr := fr.map fun p => (p.1, renV k k' p.2)
theorem RC.ren {k k' : Nat} (hg : γ k' = γ k) (ht : T k' = T k) {c : C} {v : Value} (h : RC γ T S w c v) : RC γ T S w (renC k k' c) v := by
  have g : ∀ i, γ (rk k k' i) = γ i := fun i => by unfold rk; by_cases e : i = k; rw [if_pos e, e, hg]; rw [if_neg e]
  have t : ∀ i, T (rk k k' i) = T i := fun i => by unfold rk; by_cases e : i = k; rw [if_pos e, e, ht]; rw [if_neg e]
  cases c with
  | d x => exact h
  | own i r => exact ⟨h.1, (t i).trans h.2⟩
  | po i o => simp only [renC, RC, g] at h ⊢; exact h
  | fn f caps =>
    simp only [renC, RC, List.map_map] at h ⊢
    rw [h]; congr 2
    apply List.map_congr_left
    intro i _
    simp only [Function.comp, g]
  | win i lo n c sz => simp only [renC, RC, g] at h ⊢; exact h
  | pe i m o sz => simp only [renC, RC, g] at h ⊢; exact h
  | any => exact h
theorem RV.ren {k k' : Nat} (hg : γ k' = γ k) (ht : T k' = T k) {x : VV} {v : Value} (h : RV γ T S w x v) : RV γ T S w (renV k k' x) v := by
  cases x with
  | one c => cases h with | one h => exact .one (h.ren hg ht)
  | dat cs => exact h
  | tup l =>
    cases l with
    | nil => exact h
    | cons _ _ => exact .junk _
  | ag cs =>
    cases h with
    | ag _ us len val =>
      refine .ag _ us (by rw [List.length_map]; exact len) fun j c hc => ?_
      rw [List.getElem?_map, Option.map_eq_some_iff] at hc
      obtain ⟨c0, h1, rfl⟩ := hc
      obtain ⟨u, h2, h3⟩ := val j c0 h1
      exact ⟨u, h2, h3.ren hg ht⟩
  | junk => exact .junk _
theorem RO.ren_obj {k k' i : Nat} (hg : γ k' = γ k) (ht : T k' = T k) {ty : TypeId} {cs : List C} (h : RO X γ T S w i (.obj ty cs)) : RO X γ T S w i (.obj ty (cs.map (renC k k'))) := by
  obtain ⟨us, h1, ⟨h2, h3⟩, h4⟩ := h
  refine ⟨us, h1, ⟨by rw [List.length_map]; exact h2, fun i c hc => ?_⟩, h4⟩
  rw [List.getElem?_map, Option.map_eq_some_iff] at hc
  obtain ⟨c0, q1, rfl⟩ := hc
  obtain ⟨u, q2, q3, q4⟩ := h3 i c0 q1
  exact ⟨u, q2, q3.ren hg ht, q4⟩
theorem RO.at_ {i j : Nat} (hg : γ i = γ j) (hp : ∀ b, X.pin i = some b → γ j = b) {ob : Ob} (hb : boxy ob = true) (h : RO X γ T S w j ob) : RO X γ T S w i ob := by
  cases ob with
  | box ty cs => obtain ⟨us, q1, q2, q3, q4⟩ := h; exact ⟨us, by rw [hg]; exact q1, q2, by rw [hg]; exact q3, by rw [hg]; exact q4⟩
  | cell ty c => obtain ⟨u, q1, q2, q3, q4, q5, q6⟩ := h; exact ⟨u, by rw [hg]; exact q1, q2, q3, by rw [hg]; exact q4, by rw [hg]; exact q5, fun b hb => by rw [hg]; exact hp b hb⟩
  | arr e sz rows => obtain ⟨us, q1, q2, q3, q4, q5, q6⟩ := h; exact ⟨us, by rw [hg]; exact q1, q2, q3, by rw [hg]; exact q4, by rw [hg]; exact q5, fun b hb => by rw [hg]; exact hp b hb⟩
  | obj ty cs => obtain ⟨us, q1, q2, q3, q4, q5⟩ := h; exact ⟨us, by rw [hg]; exact q1, q2, by rw [hg]; exact q3, by rw [hg]; exact q4, fun b hb => by rw [hg]; exact hp b hb⟩
  | mp es => obtain ⟨ms, cl, q1, q2, q3, q4, q5⟩ := h; exact ⟨ms, cl, by rw [hg]; exact q1, q2, by rw [hg]; exact q3, by rw [hg]; exact q4, fun b hb => by rw [hg]; exact hp b hb⟩
  | tok e sz => cases hb
  | junk => trivial
theorem RO.pin_ {i : Nat} {ob : Ob} (hb : boxy ob = true) (hx : ∀ ty cs, ob ≠ .box ty cs) (h : RO X γ T S w i ob) : ∀ b, X.pin i = some b → γ i = b := by
  cases ob with
  | box ty cs => exact absurd rfl (hx ty cs)
  | cell ty c => obtain ⟨u, q1, q2, q3, q4, q5, q6⟩ := h; exact q6
  | arr e sz rows => obtain ⟨us, q1, q2, q3, q4, q5, q6⟩ := h; exact q6
  | obj ty cs => obtain ⟨us, q1, q2, q3, q4, q5⟩ := h; exact q5
  | mp es => obtain ⟨ms, cl, q1, q2, q3, q4, q5⟩ := h; exact q5
  | tok e sz => cases hb
  | junk => cases hb
theorem Rel.ren (k k' : Nat) (hr : Rel X γ T S w fr σ a) (hp : X.pin k' = none) : Rel X (setK γ k' (γ k)) (setK T k' (T k)) S w (renF k k' (stripF k' fr)) (renS k k' (stripS k' σ)) a := by
  by_cases hkk : k' = k
  · subst hkk
    have h1 := hr.upd (γ' := setK γ k' (γ k')) (T' := setK T k' (T k')) k' (fun i hi => setK_ne _ _ _ _ hi) (fun i hi => setK_ne _ _ _ _ hi)
    obtain ⟨⟨keep, lt, nlt, set, mon, obj, dis⟩, hfr, hn, hd⟩ := h1
    have hx : ∀ i ob, look (renS k' k' (stripS k' σ)) i = some ob → i ≠ k' ∧ ∃ ob0, look (stripS k' σ) i = some ob0 ∧ ob = renO k' k' ob0 := fun i ob => by
      generalize stripS k' σ = s
      unfold renS
      induction s with
      | nil => intro h; simp [look] at h
      | cons p s ih =>
        intro h
        rw [List.filter_cons] at h
        split at h
        · rename_i hne
          simp only [Bool.not_eq_true', beq_eq_false_iff_ne, ne_eq] at hne
          simp only [List.map_cons, look] at h
          have hrk : rk k' k' p.1 = p.1 := by unfold rk; rw [if_neg hne]
          rw [hrk] at h
          split at h
          · rename_i e; injection h with h; subst e; exact ⟨hne, p.2, by obtain ⟨a, b⟩ := p; simp [look], h.symm⟩
          · rename_i e
            obtain ⟨g1, ob0, g2, g3⟩ := ih h
            exact ⟨g1, ob0, by obtain ⟨a, b⟩ := p; simp only [look]; rw [if_neg e]; exact g2, g3⟩
        · rename_i hne
          simp only [Bool.not_eq_true', beq_eq_false_iff_ne, ne_eq, Decidable.not_not] at hne
          obtain ⟨g1, ob0, g2, g3⟩ := ih h
          exact ⟨g1, ob0, by obtain ⟨a, b⟩ := p; simp only at hne; subst hne; simp only [look]; rw [if_neg (Ne.symm g1)]; exact g2, g3⟩
    have hob : ∀ i ob0, look (stripS k' σ) i = some ob0 → RO X (setK γ k' (γ k')) (setK T k' (T k')) S w i (renO k' k' ob0) := fun i ob0 h => by
      have h2 := obj i ob0 h
      cases ob0 with
      | cell ty c => obtain ⟨u, q1, q2, q3⟩ := h2; exact ⟨u, q1, q2.ren rfl rfl, q3⟩
      | box ty cs => exact h2
      | tok e sz => exact h2
      | arr e sz rows => exact h2
      | obj ty cs => exact h2.ren_obj rfl rfl
      | mp es => exact h2
      | junk => exact h2
    have hfp : ∀ i ob0 b, fp (setK γ k' (γ k')) (setK T k' (T k')) i (renO k' k' ob0) b → fp (setK γ k' (γ k')) (setK T k' (T k')) i ob0 b := fun i ob0 b h => by cases ob0 <;> exact h
    refine ⟨⟨keep, lt, nlt, set, mon, fun i ob h => ?_, fun i i' o o' hi hi' hne b hb => ?_⟩, fun t y hy => ?_, hn, hd⟩
    · obtain ⟨_, ob0, g2, rfl⟩ := hx i ob h; exact hob i ob0 g2
    · obtain ⟨_, ob0, g2, rfl⟩ := hx i o hi
      obtain ⟨_, ob0', g2', rfl⟩ := hx i' o' hi'
      exact fun hb' => dis i i' ob0 ob0' g2 g2' hne b (hfp _ _ _ hb) (hfp _ _ _ hb')
    · have : ∀ (f : Fr), look (renF k' k' f) t = some y → ∃ y0, look f t = some y0 ∧ y = renV k' k' y0 := fun f => by
        unfold renF
        induction f with
        | nil => intro h; simp [look] at h
        | cons p f ih =>
          intro h
          obtain ⟨a, b⟩ := p
          simp only [List.map_cons, look] at h ⊢
          split at h
          · rename_i e; rw [if_pos e]; injection h with h; exact ⟨b, rfl, h.symm⟩
          · rename_i e; rw [if_neg e]; exact ih h
      obtain ⟨y0, g1, rfl⟩ := this _ hy
      exact (hfr t y0 g1).ren rfl rfl
  · have h1 := hr.upd (γ' := setK γ k' (γ k)) (T' := setK T k' (T k)) k' (fun i hi => setK_ne _ _ _ _ hi) (fun i hi => setK_ne _ _ _ _ hi)
    have eg : setK γ k' (γ k) k' = setK γ k' (γ k) k := by rw [setK_at, setK_ne _ _ _ _ (Ne.symm hkk)]
    have et : setK T k' (T k) k' = setK T k' (T k) k := by rw [setK_at, setK_ne _ _ _ _ (Ne.symm hkk)]
    revert h1 eg et
    generalize setK γ k' (γ k) = γ2
    generalize setK T k' (T k) = T2
    intro h1 eg et
    obtain ⟨⟨keep, lt, nlt, set, mon, obj, dis⟩, hfr, hn, hd⟩ := h1
    have hx : ∀ i ob, look (renS k k' (stripS k' σ)) i = some ob → ∃ i0 ob0, i = rk k k' i0 ∧ i0 ≠ k' ∧ look (stripS k' σ) i0 = some ob0 ∧ ob = renO k k' ob0 := fun i ob => by
      generalize stripS k' σ = s
      unfold renS
      induction s with
      | nil => intro h; simp [look] at h
      | cons p s ih =>
        intro h
        obtain ⟨a, b⟩ := p
        rw [List.filter_cons] at h
        have tail : (∃ i0 ob0, i = rk k k' i0 ∧ i0 ≠ k' ∧ look s i0 = some ob0 ∧ ob = renO k k' ob0) → (a = k' ∨ i ≠ rk k k' a) → ∃ i0 ob0, i = rk k k' i0 ∧ i0 ≠ k' ∧ look ((a, b) :: s) i0 = some ob0 ∧ ob = renO k k' ob0 := by
          rintro ⟨i0, ob0, g1, g2, g3, g4⟩ hne
          refine ⟨i0, ob0, g1, g2, ?_, g4⟩
          simp only [look]
          rw [if_neg]
          · exact g3
          · rintro rfl
            rcases hne with h | h
            · exact g2 h
            · exact h g1
        split at h
        · rename_i hne
          simp only [Bool.not_eq_true', beq_eq_false_iff_ne, ne_eq] at hne
          simp only [List.map_cons, look] at h
          split at h
          · rename_i e; injection h with h; exact ⟨a, b, e.symm, hne, by simp [look], h.symm⟩
          · rename_i e; exact tail (ih h) (.inr fun h => e h.symm)
        · rename_i hne
          simp only [Bool.not_eq_true', beq_eq_false_iff_ne, ne_eq, Decidable.not_not] at hne
          exact tail (ih h) (.inl hne)
    have g : ∀ i, γ2 (rk k k' i) = γ2 i := fun i => by unfold rk; by_cases e : i = k; rw [if_pos e, e, eg]; rw [if_neg e]
    have t : ∀ i, T2 (rk k k' i) = T2 i := fun i => by unfold rk; by_cases e : i = k; rw [if_pos e, e, et]; rw [if_neg e]
    have hob : ∀ i ob0, look (stripS k' σ) i = some ob0 → RO X γ2 T2 S w (rk k k' i) (renO k k' ob0) := fun i ob0 h => by
      have h2 := obj i ob0 h
      cases ob0 with
      | cell ty c =>
        obtain ⟨u, q1, q2, q3, q4, q5, q6⟩ := h2
        refine ⟨u, by rw [g]; exact q1, q2.ren eg et, q3, by rw [g]; exact q4, by rw [g]; exact q5, fun b hb => ?_⟩
        rw [g]
        unfold rk at hb
        split at hb
        · rw [hp] at hb; cases hb
        · exact q6 b hb
      | box ty cs => obtain ⟨us, q1, q2, q3, q4⟩ := h2; exact ⟨us, by rw [g]; exact q1, q2, by rw [g]; exact q3, by rw [g]; exact q4⟩
      | tok e sz => simp only [renO, RO, t] at h2 ⊢; exact h2
      | arr e sz rows => exact h2.at_ (g i) (fun b hb => by
          unfold rk at hb
          split at hb
          · rw [hp] at hb; cases hb
          · exact h2.pin_ rfl (fun _ _ h => by cases h) b hb) rfl
      | obj ty cs => exact (h2.ren_obj eg et).at_ (g i) (fun b hb => by
          unfold rk at hb
          split at hb
          · rw [hp] at hb; cases hb
          · exact h2.pin_ rfl (fun _ _ h => by cases h) b hb) rfl
      | mp es => exact h2.at_ (g i) (fun b hb => by
          unfold rk at hb
          split at hb
          · rw [hp] at hb; cases hb
          · exact h2.pin_ rfl (fun _ _ h => by cases h) b hb) rfl
      | junk => trivial
    have hfp : ∀ i ob0 b, fp γ2 T2 (rk k k' i) (renO k k' ob0) b → fp γ2 T2 i ob0 b := fun i ob0 b h => by
      cases ob0 with
      | cell ty c => simpa only [renO, fp, g] using h
      | box ty cs => simpa only [renO, fp, g] using h
      | tok e sz => simpa only [renO, fp, t] using h
      | arr e sz rows => simpa only [renO, fp, g] using h
      | obj ty cs => simpa only [renO, fp, g] using h
      | mp es => simpa only [renO, fp, g] using h
      | junk => exact h.elim
    refine ⟨⟨keep, lt, nlt, set, mon, fun i ob h => ?_, fun i i' o o' hi hi' hne b hb => ?_⟩, fun t y hy => ?_, hn, hd⟩
    · obtain ⟨i0, ob0, rfl, _, g2, rfl⟩ := hx i ob h; exact hob i0 ob0 g2
    · obtain ⟨i0, ob0, rfl, _, g2, rfl⟩ := hx i o hi
      obtain ⟨i0', ob0', rfl, _, g2', rfl⟩ := hx i' o' hi'
      exact fun hb' => dis i0 i0' ob0 ob0' g2 g2' (fun e => hne (by rw [e])) b (hfp _ _ _ hb) (hfp _ _ _ hb')
    · have : ∀ (f : Fr), look (renF k k' f) t = some y → ∃ y0, look f t = some y0 ∧ y = renV k k' y0 := fun f => by
        unfold renF
        induction f with
        | nil => intro h; simp [look] at h
        | cons p f ih =>
          intro h
          obtain ⟨a, b⟩ := p
          simp only [List.map_cons, look] at h ⊢
          split at h
          · rename_i e; rw [if_pos e]; injection h with h; exact ⟨b, rfl, h.symm⟩
          · rename_i e; rw [if_neg e]; exact ih h
      obtain ⟨y0, g1, rfl⟩ := this _ hy
      exact (hfr t y0 g1).ren eg et
theorem W_ren {c : Code} {QQ : Exit → Fr → Obs → Prop} (k k' : Nat) (hp : X.pin k' = none) (h : W X c (renF k k' (stripF k' fr)) (renS k k' (stripS k' σ)) QQ) : W X c fr σ QQ :=
  ⟨fun _ _ S w a hr => h.out _ _ S w a (hr.ren k k' hp)⟩
end
end Go.Proofs.Ytjhkehloipmjfaa
