/- How the relation between abstract values and a world goes on: memory grows, a key is made anew, a slot is written. -/
import Derived.Test.YtjhkehloipmjfaaW0
namespace Go.Proofs.Ytjhkehloipmjfaa
open Go.RowKit
section
variable {X : Ctx} {γ γ' : Nat → Nat} {T T' : Nat → Value} {S S' : Nat → Nat → Prop} {w w' : World} {fr : Fr} {σ : Obs} {a : Act}
theorem tail_one (p sz : Nat) (v : Value) : (tailV p sz v).oneCell' = v.oneCell' := by
  unfold tailV
  split <;> rfl
theorem RD.tail {pre rows : List (List D)} {sz : Nat} {V : Value} (hp : pre.all (fun q => Nat.beq q.length sz) = true) (h : RD S w (.sl (pre ++ rows)) V) : RD S w (.sl rows) (tailV pre.length sz V) := by
  cases h with
  | sl _ A c sz' vs cap lim nil row val spot mem =>
    cases A with
    | none =>
      obtain ⟨h1, h2⟩ := List.append_eq_nil_iff.1 (nil rfl)
      subst h1; subst h2
      exact .sl [] none c sz' vs cap lim (fun _ => rfl) row val spot mem
    | some a =>
      have hl : (pre ++ rows).length - pre.length = rows.length := by simp
      show RD S w (.sl rows) (.slice (some { a with off := a.off + pre.length * sz }) ((pre ++ rows).length - pre.length) (c - pre.length))
      rw [hl]
      rw [List.length_append] at cap lim spot
      have hsz : pre = [] ∨ sz' = sz := by
        cases pre with
        | nil => exact .inl rfl
        | cons q l =>
          refine .inr ?_
          rw [← row 0 q rfl]
          exact Nat.eq_of_beq_eq_true (List.all_eq_true.1 hp q (by simp))
      have hoff : ∀ i j, a.off + pre.length * sz + (i * sz' + j) = a.off + ((i + pre.length) * sz' + j) := by
        intro i j
        rcases hsz with e | e
        · subst e; simp
        · subst e; rw [Nat.add_mul]; omega
      refine .sl rows _ (c - pre.length) sz' (fun i j => vs (i + pre.length) j) (by omega) (by omega) (fun h => by cases h) (fun i q hq => row (i + pre.length) q (by rw [List.getElem?_append_right (by omega)]; simpa using hq)) (fun i q hq j x hx => val (i + pre.length) q (by rw [List.getElem?_append_right (by omega)]; simpa using hq) j x hx) (fun a' ha hr => by cases ha; exact spot a rfl (by omega)) fun a' ha i hi j hj => ?_
      cases ha
      have := mem a rfl (i + pre.length) (by rw [List.length_append]; omega) j hj
      simp only [hoff]
      exact this
theorem RC.que_rows {k sz tot : Nat} {rows : List (List D)} {v : Value} (h : RC γ T S w (.que k sz tot rows) v) : RD S w (.sl rows) v := by
  obtain ⟨pre, h1, h2, h3, h4⟩ := h
  rcases h4 with h4 | ⟨h4, a, h5⟩
  · rw [h4]; exact RD.tail h2 h3
  · subst h4; subst h5
    exact .sl [] (some a) 0 0 (fun _ _ => undef) (Nat.le_refl _) (Nat.zero_le _) (fun h => by cases h) (fun i q hq => by simp at hq) (fun i q hq => by simp at hq) (fun _ _ h => absurd h (by decide)) (fun _ _ i hi => absurd hi (by simp))
theorem RC.mono (hS : ∀ b o, S b o → S' b o) (hk : Kp S w w') {c : C} {v : Value} (h : RC γ T S w c v) : RC γ T S' w' c v := by
  cases c with
  | d x => exact RD.mono hS hk h
  | own k r => exact ⟨RD.mono hS hk h.1, h.2⟩
  | po k o => exact h
  | mr k => exact h
  | que k sz tot r => obtain ⟨pre, h1, h2, h3, h4⟩ := h; exact ⟨pre, h1, h2, RD.mono hS hk h3, h4⟩
  | fn f cap => exact h
  | win k lo n c sz => exact h
  | pe k i o sz => exact h
  | any => exact h
theorem RC.one {c : C} {v : Value} (h : RC γ T S w c v) : v.oneCell' = true := by
  cases c with
  | d x => exact RD.one h
  | own k r => exact RD.one h.1
  | po k o => cases h; rfl
  | mr k => cases h; rfl
  | que k sz tot r =>
    obtain ⟨pre, h1, h2, h3, h4⟩ := h
    rcases h4 with h4 | ⟨_, a, h4⟩
    · rw [h4, tail_one]; exact RD.one h3
    · rw [h4]; rfl
  | fn f cap => cases h; rfl
  | win k lo n c sz => cases h; rfl
  | pe k i o sz => cases h; rfl
  | any => exact h
theorem RV.mono (hS : ∀ b o, S b o → S' b o) (hk : Kp S w w') {x : VV} {v : Value} (h : RV γ T S w x v) : RV γ T S' w' x v := by
  induction h with
  | one h => exact .one (h.mono hS hk)
  | dat h => exact .dat (h.mono hS hk)
  | tup l us len val ih => exact .tup l us len ih
  | ag cs us len val => exact .ag cs us len fun j c hc => let ⟨u, h1, h2⟩ := val j c hc; ⟨u, h1, h2.mono hS hk⟩
  | junk v => exact .junk v
/-- what does not hang on key k does not ask what k is -/
theorem RC.strip {k : Nat} (hg : ∀ j, j ≠ k → γ' j = γ j) (hT : ∀ j, j ≠ k → T' j = T j) {c c' : C} (hc : stripC k c = some c') {v : Value} (h : RC γ T S w c v) : RC γ' T' S w c' v := by
  cases c with
  | d x => simp only [stripC, Option.some.injEq] at hc; subst hc; exact h
  | own j r =>
    simp only [stripC] at hc
    split at hc <;> injection hc with hc <;> subst hc
    · exact h.1
    · rename_i hne; exact ⟨h.1, (hT j hne).trans h.2⟩
  | po j o =>
    simp only [stripC] at hc
    split at hc
    · cases hc
    · rename_i hne; injection hc with hc; subst hc; cases h; simp only [RC, hg j hne]
  | mr j =>
    simp only [stripC] at hc
    split at hc
    · cases hc
    · rename_i hne; injection hc with hc; subst hc; cases h; simp only [RC, hg j hne]
  | que j sz tot r =>
    simp only [stripC] at hc
    split at hc
    · injection hc with hc; subst hc; exact h.que_rows
    · rename_i hne; injection hc with hc; subst hc; simp only [RC, hT j hne] at h ⊢; exact h
  | fn f cap =>
    simp only [stripC] at hc
    split at hc
    · cases hc
    · rename_i hne; injection hc with hc; subst hc; cases h
      simp only [RC]
      congr 2
      apply List.map_congr_left
      intro j hj
      rw [hg j (fun e => hne (by subst e; simpa using hj))]
  | win j lo n c sz =>
    simp only [stripC] at hc
    split at hc
    · cases hc
    · rename_i hne; injection hc with hc; subst hc; cases h; simp only [RC, hg j hne]
  | pe j i o sz =>
    simp only [stripC] at hc
    split at hc
    · cases hc
    · rename_i hne; injection hc with hc; subst hc; cases h; simp only [RC, hg j hne]
  | any => simp only [stripC, Option.some.injEq] at hc; subst hc; exact h
theorem RC.stripA {k : Nat} (hg : ∀ j, j ≠ k → γ' j = γ j) (hT : ∀ j, j ≠ k → T' j = T j) {c : C} {v : Value} (h : RC γ T S w c v) : RC γ' T' S w (stripA k c) v := by
  unfold Go.Proofs.Ytjhkehloipmjfaa.stripA
  split
  · rename_i c' hc; exact h.strip hg hT hc
  · exact h.one
theorem RV.strip {k : Nat} (hg : ∀ j, j ≠ k → γ' j = γ j) (hT : ∀ j, j ≠ k → T' j = T j) {x : VV} {v : Value} (h : RV γ T S w x v) : RV γ' T' S w (stripV k x) v := by
  cases x with
  | one c =>
    cases h with
    | one h =>
      simp only [stripV]
      split
      · rename_i c' hc; exact .one (h.strip hg hT hc)
      · exact .junk _
  | dat cs => cases h with | dat h => exact .dat h
  | tup l =>
    simp only [stripV]
    split
    · rename_i hl
      cases h with
      | tup _ us len val =>
        refine .tup l us len fun j x u hx hu => ?_
        have h1 := List.all_eq_true.1 hl x (List.mem_of_getElem? hx)
        have h2 := val j x u hx hu
        cases x with
        | one c =>
          cases c with
          | d y => cases h2 with | one h2 => exact .one h2
          | _ => cases h1
        | dat cs => cases h2 with | dat h2 => exact .dat h2
        | _ => cases h1
    · exact .junk _
  | ag cs =>
    cases h with
    | ag _ us len val =>
      refine .ag _ us (by unfold stripL; rw [List.length_map]; exact len) fun j c hc => ?_
      unfold stripL at hc
      rw [List.getElem?_map, Option.map_eq_some_iff] at hc
      obtain ⟨c0, h1, rfl⟩ := hc
      obtain ⟨u, h2, h3⟩ := val j c0 h1
      exact ⟨u, h2, h3.stripA hg hT⟩
  | junk => exact .junk _
theorem RO.strip {k j : Nat} (hj : j ≠ k) (hg : ∀ j, j ≠ k → γ' j = γ j) (hT : ∀ j, j ≠ k → T' j = T j) {o : Ob} (h : RO X γ T S w j o) : RO X γ' T' S w j (stripO k o) := by
  cases o with
  | box ty cs => simp only [stripO, RO, hg j hj] at h ⊢; exact h
  | cell ty c =>
    simp only [stripO]
    split
    · rename_i c' hc
      obtain ⟨u, h1, h2, h3, h4⟩ := h
      simp only [RO, hg j hj]
      exact ⟨u, h1, h2.strip hg hT hc, h3, h4⟩
    · trivial
  | tok e sz => simp only [stripO, RO, hT j hj] at h ⊢; exact h
  | arr e sz rows => simp only [stripO, RO, hg j hj] at h ⊢; exact h
  | obj ty cs =>
    obtain ⟨us, h1, ⟨h2, h3⟩, h4⟩ := h
    simp only [stripO, RO, hg j hj, stripL]
    refine ⟨us, h1, ⟨by rw [List.length_map]; exact h2, fun i c hc => ?_⟩, h4⟩
    rw [List.getElem?_map, Option.map_eq_some_iff] at hc
    obtain ⟨c0, q1, rfl⟩ := hc
    obtain ⟨u, q2, q3, q4⟩ := h3 i c0 q1
    exact ⟨u, q2, q3.stripA hg hT, q4⟩
  | mp es =>
    obtain ⟨ms, cl, h1, ⟨h2, h3⟩, h4⟩ := h
    simp only [stripO, RO, hg j hj]
    exact ⟨ms, cl, h1, ⟨h2, h3⟩, h4⟩
  | junk => trivial
theorem fp.strip {k j : Nat} (hj : j ≠ k) (hg : ∀ j, j ≠ k → γ' j = γ j) (hT : ∀ j, j ≠ k → T' j = T j) {o : Ob} {b : Nat} (h : fp γ' T' j (stripO k o) b) : fp γ T j o b := by
  cases o with
  | box ty cs => simpa only [stripO, fp, hg j hj] using h
  | cell ty c =>
    simp only [stripO] at h
    split at h
    · simpa only [fp, hg j hj] using h
    · exact h.elim
  | tok e sz => simpa only [stripO, fp, hT j hj] using h
  | arr e sz rows => simpa only [stripO, fp, hg j hj] using h
  | obj ty cs => simpa only [stripO, fp, hg j hj] using h
  | mp es => simpa only [stripO, fp, hg j hj] using h
  | junk => exact h.elim
/-- Key k may be anything where nothing hangs on it. -/
theorem Rel.upd (k : Nat) (hg : ∀ j, j ≠ k → γ' j = γ j) (hT : ∀ j, j ≠ k → T' j = T j) (h : Rel X γ T S w fr σ a) : Rel X γ' T' S w (stripF k fr) (stripS k σ) a := by
  obtain ⟨⟨keep, lt, nlt, set, mon, obj, dis⟩, hfr, hn, hd⟩ := h
  have cut : ∀ j o, look (stripS k σ) j = some o → (j = k ∧ o = .junk) ∨ (j ≠ k ∧ ∃ o', look σ j = some o' ∧ o = stripO k o') := by
    intro j o ho
    rw [look_stripS, Option.map_eq_some_iff] at ho
    obtain ⟨o', h1, h2⟩ := ho
    by_cases hj : j = k
    · rw [if_pos hj] at h2; exact .inl ⟨hj, h2.symm⟩
    · rw [if_neg hj] at h2; exact .inr ⟨hj, o', h1, h2.symm⟩
  refine ⟨⟨keep, lt, nlt, set, mon, fun j o ho => ?_, fun i j o o' hi hj hne b hb => ?_⟩, fun t x hx => ?_, hn, hd⟩
  · rcases cut j o ho with ⟨_, rfl⟩ | ⟨hj, o', h1, rfl⟩
    · trivial
    · exact (obj j o' h1).strip hj hg hT
  · rcases cut i o hi with ⟨_, rfl⟩ | ⟨hik, p, h1, rfl⟩
    · exact hb.elim
    · rcases cut j o' hj with ⟨_, rfl⟩ | ⟨hjk, p', h2, rfl⟩
      · exact id
      · exact fun hb' => dis i j p p' h1 h2 hne b (fp.strip hik hg hT hb) (fp.strip hjk hg hT hb')
  · rw [look_stripF, Option.map_eq_some_iff] at hx
    obtain ⟨x', h1, rfl⟩ := hx
    exact (hfr t x' h1).strip hg hT
theorem heap_some_lt {w : World} {b : Nat} {o : Obj} (h : w.heap[b]? = some o) : b < w.heap.size := (Array.getElem?_eq_some_iff.1 h).1
theorem RO.lt {k : Nat} {o : Ob} (h : RO X γ T S w k o) {b : Nat} (hb : fp γ T k o b) : b < w.heap.size := by
  cases o with
  | box ty cs => obtain ⟨us, h1, _⟩ := h; cases hb; exact heap_some_lt h1
  | cell ty c => obtain ⟨us, h1, _⟩ := h; cases hb; exact heap_some_lt h1
  | tok e sz => obtain ⟨n, xs, h1, _⟩ := h; exact (h1.lt b hb).2
  | arr e sz rows => obtain ⟨us, h1, _⟩ := h; cases hb; exact heap_some_lt h1
  | obj ty cs => obtain ⟨us, h1, _⟩ := h; cases hb; exact heap_some_lt h1
  | mp es => obtain ⟨us, _, h1, _⟩ := h; cases hb; exact heap_some_lt h1
  | junk => exact hb.elim
theorem RO.free {k : Nat} {o : Ob} (h : RO X γ T S w k o) {b : Nat} (hb : fp γ T k o b) : ¬ X.N b := by
  cases o with
  | box ty cs => obtain ⟨us, _, _, _, h1⟩ := h; cases hb; exact h1
  | cell ty c => obtain ⟨us, _, _, _, _, h1, _⟩ := h; cases hb; exact h1
  | tok e sz => obtain ⟨n, xs, _, h1⟩ := h; exact (h1 b hb).1
  | arr e sz rows => obtain ⟨us, _, _, _, _, h1, _⟩ := h; cases hb; exact h1
  | obj ty cs => obtain ⟨us, _, _, _, h1, _⟩ := h; cases hb; exact h1
  | mp es => obtain ⟨us, _, _, _, _, h1, _⟩ := h; cases hb; exact h1
  | junk => exact hb.elim
/-- An object stays where its blocks stay, and nothing more in them is settled. -/
theorem RO.kept {k : Nat} {o : Ob} (hS : ∀ b o, S b o → S' b o) (hk : Kp S w w') (hb : ∀ b, fp γ T k o b → w'.heap[b]? = w.heap[b]? ∧ ∀ i, S' b i → S b i) (h : RO X γ T S w k o) : RO X γ T S' w' k o := by
  cases o with
  | box ty cs =>
    obtain ⟨us, h1, h2, h3, h4⟩ := h
    obtain ⟨hb1, hb2⟩ := hb _ rfl
    exact ⟨us, hb1.trans h1, h2.mono hS hk, fun o ho => h3 o (hb2 o ho), h4⟩
  | cell ty c =>
    obtain ⟨us, h1, h2, h0, h3, h4⟩ := h
    obtain ⟨hb1, hb2⟩ := hb _ rfl
    exact ⟨us, hb1.trans h1, h2.mono hS hk, h0, fun o ho => h3 o (hb2 o ho), h4⟩
  | tok e sz =>
    obtain ⟨n, xs, h1, h2⟩ := h
    refine ⟨n, xs, ⟨h1.1, ?_⟩, fun g hg => ⟨(h2 g hg).1, fun o ho => (h2 g hg).2 o ((hb g hg).2 o ho)⟩⟩
    rcases h1.2 with h3 | ⟨g, cap, cur, hv, hbase, hg, rest⟩
    · exact .inl h3
    · exact .inr ⟨g, cap, cur, hv, hbase, by rw [(hb g (by simp [fp, hv, Value.ownBlock])).1]; exact hg, rest⟩
  | arr e sz rows =>
    obtain ⟨us, h1, h2, h3, h4, h5⟩ := h
    obtain ⟨hb1, hb2⟩ := hb _ rfl
    exact ⟨us, hb1.trans h1, h2, fun i q hq => ⟨(h3 i q hq).1, fun j x hx => let ⟨u, g1, g2⟩ := (h3 i q hq).2 j x hx; ⟨u, g1, g2.mono hS hk⟩⟩, fun o ho => h4 o (hb2 o ho), h5⟩
  | obj ty cs =>
    obtain ⟨us, h1, ⟨h2, h3⟩, h4, h5⟩ := h
    obtain ⟨hb1, hb2⟩ := hb _ rfl
    exact ⟨us, hb1.trans h1, ⟨h2, fun j c hc => let ⟨u, g1, g2, g3⟩ := h3 j c hc; ⟨u, g1, g2.mono hS hk, g3⟩⟩, fun o ho => h4 o (hb2 o ho), h5⟩
  | mp es =>
    obtain ⟨ms, cl, h1, ⟨h2, h3⟩, h4, h5⟩ := h
    obtain ⟨hb1, hb2⟩ := hb _ rfl
    exact ⟨ms, cl, hb1.trans h1, ⟨h2, fun j p hp => let ⟨m, g1, g2, g3⟩ := h3 j p hp; ⟨m, g1, g2, fun γ T => (g3 γ T).mono hS hk⟩⟩, fun o ho => h4 o (hb2 o ho), h5⟩
  | junk => trivial
theorem Kp.of_below (lt : ∀ b o, S b o → b < w.heap.size) (hb : Below w.heap.size w w') : Kp S w w' := fun b o x hs hc => by
  rw [World.cell?_of_block (hb.block b (lt b o hs))]; exact hc
/-- Memory grows; what is new may be settled. -/
theorem Rel.grow (h : Rel X γ T S w fr σ a) (hb : Below w.heap.size w w') (hS : ∀ b o, S b o → S' b o) (hS' : ∀ b o, S' b o → S b o ∨ (w.heap.size ≤ b ∧ b < w'.heap.size)) : Rel X γ T S' w' fr σ a := by
  obtain ⟨⟨keep, lt, nlt, set, mon, obj, dis⟩, hfr, hn, hd⟩ := h
  have hk : Kp S w w' := .of_below lt hb
  have h0 : X.w0.heap.size ≤ w.heap.size := keep.size
  refine ⟨⟨keep.trans (.of_below hb), fun b o hs => ?_, nlt, fun b o hs => ?_, ⟨fun b o hs => hS _ _ (mon.1 b o hs), fun b o x hs hc => hk b o x (mon.1 b o hs) (mon.2 b o x hs hc)⟩, fun k o ho => ?_, dis⟩, fun t x hx => (hfr t x hx).mono hS hk, hn, hd⟩
  · rcases hS' b o hs with h1 | h1
    · exact Nat.lt_of_lt_of_le (lt b o h1) hb.size
    · exact h1.2
  · rcases hS' b o hs with h1 | h1
    · exact set b o h1
    · exact .inr fun hN => by have := nlt b hN; omega
  · refine (obj k o ho).kept hS hk fun b hbb => ⟨hb.block b ((obj k o ho).lt hbb), fun i hi => ?_⟩
    rcases hS' b i hi with h1 | h1
    · exact h1
    · have := (obj k o ho).lt hbb; omega
/-- One more object of its own, under a key of which nothing is said. -/
theorem Rel.add {k : Nat} {ob : Ob} (h : Rel X γ T S w fr σ a) (_hk : ∀ o, look σ k = some o → o = .junk) (ho : RO X γ T S w k ob) (hd : ∀ b, fp γ T k ob b → ∀ k' o', look σ k' = some o' → k' ≠ k → ¬ fp γ T k' o' b) : Rel X γ T S w fr ((k, ob) :: σ) a := by
  obtain ⟨⟨keep, lt, nlt, set, mon, obj, dis⟩, hfr, hn, hdf⟩ := h
  refine ⟨⟨keep, lt, nlt, set, mon, fun j o hj => ?_, fun i j o o' hi hj hne b hb => ?_⟩, hfr, hn, hdf⟩
  · simp only [look] at hj
    split at hj
    · rename_i e; injection hj with hj; subst hj; subst e; exact ho
    · exact obj j o hj
  · simp only [look] at hi hj
    split at hi <;> split at hj
    · rename_i e1 e2; exact (hne (e1.symm.trans e2)).elim
    · rename_i e1 e2; injection hi with hi; subst hi; subst e1; exact hd b hb j o' hj (fun e => hne e.symm)
    · rename_i e1 e2; injection hj with hj; subst hj; subst e2; exact fun hb' => hd b hb' i o hi hne hb
    · exact dis i j o o' hi hj hne b hb
/-- What is said less holds all the more. -/
theorem Rel.sub {fr' : Fr} {σ' : Obs} (hf : ∀ t x, look fr' t = some x → look fr t = some x) (hs : ∀ k o, look σ' k = some o → look σ k = some o) (h : Rel X γ T S w fr σ a) : Rel X γ T S w fr' σ' a := by
  obtain ⟨⟨keep, lt, nlt, set, mon, obj, dis⟩, hfr, hn, hdf⟩ := h
  exact ⟨⟨keep, lt, nlt, set, mon, fun k o ho => obj k o (hs k o ho), fun i j o o' hi hj => dis i j o o' (hs i o hi) (hs j o' hj)⟩, fun t x hx => hfr t x (hf t x hx), hn, hdf⟩
def putF (fr : Fr) (dst : Option Nat) (x : VV) : Fr := match dst with | some d => (d, x) :: fr | none => fr
theorem putF_some (fr : Fr) (d : Nat) (x : VV) : putF fr (some d) x = (d, x) :: fr := rfl
theorem putF_none (fr : Fr) (x : VV) : putF fr none x = fr := rfl
def inF (n : Nat) : Option Nat → Bool
  | some d => Nat.blt d n
  | none => true
theorem Rel.put {x : VV} {v : Value} {dst : Option Nat} (h : Rel X γ T S w fr σ a) (hd : inF X.nt dst = true) (hx : RV γ T S w x v) : Rel X γ T S w (putF fr dst x) σ (a.put dst v) := by
  obtain ⟨st, hfr, hn, hdf⟩ := h
  cases dst with
  | none => exact ⟨st, hfr, hn, hdf⟩
  | some d =>
    have hlt : d < a.tmps.size := by rw [hn]; simpa [inF, Nat.blt_eq] using hd
    refine ⟨st, fun t y hy => ?_, by simpa [Act.put] using hn, hdf⟩
    simp only [putF, look] at hy
    show RV γ T S w y ((a.tmps.setIfInBounds d v).getD t undef)
    rw [Array.getD_eq_getD_getElem?, Array.getElem?_setIfInBounds]
    split at hy
    · rename_i e
      injection hy with hy; subst hy; subst e
      simpa [hlt] using hx
    · rename_i hne
      rw [if_neg hne, ← Array.getD_eq_getD_getElem?]
      exact hfr t y hy
/-- a map changed at one key -/
def setK {α : Type} (f : Nat → α) (k : Nat) (x : α) : Nat → α := fun j => if j = k then x else f j
theorem setK_at {α : Type} (f : Nat → α) (k : Nat) (x : α) : setK f k x k = x := by simp [setK]
theorem setK_ne {α : Type} (f : Nat → α) (k : Nat) (x : α) (j : Nat) (h : j ≠ k) : setK f k x j = f j := by simp [setK, h]
theorem below_alloc (w : World) (o : Obj) : Below w.heap.size w (w.alloc o) := (Below.refl _ _).alloc (Nat.le_refl _) o
/-- A new variable. -/
theorem Rel.alloc (k : Nat) (h : Rel X γ T S w fr σ a) (us : List Value) (ty : TypeId) (ob : Ob)
    (ho : ∀ γ', (∀ j, j ≠ k → γ' j = γ j) → γ' k = w.heap.size → RO X γ' T S (w.alloc (.cells us.toArray ty)) k ob) (hf : ∀ γ' b, fp γ' T k ob b → b = γ' k) :
    Rel X (setK γ k w.heap.size) T S (w.alloc (.cells us.toArray ty)) (stripF k fr) ((k, ob) :: stripS k σ) a := by
  have h1 := h.grow (w' := w.alloc (.cells us.toArray ty)) (S' := S) (below_alloc _ _) (fun _ _ hs => hs) (fun _ _ hs => .inl hs)
  have h2 := h1.upd (γ' := setK γ k w.heap.size) (T' := T) k (fun j hj => setK_ne _ _ _ _ hj) (fun _ _ => rfl)
  refine h2.add (fun o hl => ?_) (ho _ (fun j hj => setK_ne _ _ _ _ hj) (setK_at _ _ _)) fun b hb k' o' hl hne hb' => ?_
  · rw [look_stripS, Option.map_eq_some_iff] at hl
    obtain ⟨o', _, h3⟩ := hl
    simpa using h3.symm
  · have e := hf _ b hb
    rw [setK_at] at e
    rw [look_stripS, Option.map_eq_some_iff] at hl
    obtain ⟨o2, h3, h4⟩ := hl
    rw [if_neg hne] at h4
    subst h4
    have h5 := fp.strip (γ := γ) (T := T) hne (fun j hj => setK_ne _ _ _ _ hj) (fun _ _ => rfl) hb'
    have := (h.st.obj k' o2 h3).lt h5
    omega
end
end Go.Proofs.Ytjhkehloipmjfaa
