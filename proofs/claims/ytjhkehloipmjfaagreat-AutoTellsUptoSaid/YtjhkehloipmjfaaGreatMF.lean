/- What a machine's sets are, in plain Lean: what is reached by moves that stay, and along an edge. No program in sight. -/
import Derived.Test.YtjhkehloipmjfaaGreatQ0
import Derived.Test.YtjhkehloipmjfaaGreatMC
import Derived.Test.YtjhkehloipmjfaaGreatWI
import Derived.ArgAppend
namespace Go.Proofs.YtjhkehloipmjfaaGreat
inductive Rch (L : List Mv) (st : Mv → Bool) (s : Nat → Bool) : Nat → Prop
  | base {i : Nat} : s i = true → Rch L st s i
  | step {v : Mv} : v ∈ L → st v = true → Rch L st s v.src.toNat → Rch L st s v.dst.toNat
def hasB (l : List Bool) (i : Nat) : Bool := l[i]?.getD false
abbrev Qs := List Bool × List Int
def enterQ (q : Qs) (x : Int) : Qs := if hasB q.1 x.toNat = true then q else (q.1.set x.toNat true, q.2 ++ [x])
theorem zka (l : List Bool) (k i : Nat) : hasB (l.set k true) i = if k = i ∧ k < l.length then true else hasB l i := by
  unfold hasB
  rw [List.getElem?_set]
  by_cases h : k = i
  · subst h
    by_cases h2 : k < l.length
    · simp [h2]
    · simp [h2]
  · simp [h]
theorem zkN {l : List Bool} {i : Nat} {b : Bool} (h : l[i]? = some b) : hasB l i = b := by unfold hasB; rw [h]; rfl
theorem zhb (n i : Nat) : hasB (List.replicate n false) i = false := by
  unfold hasB
  rw [List.getElem?_replicate]
  split <;> rfl
structure QInv (L : List Mv) (st : Mv → Bool) (s : Nat → Bool) (n : Nat) (pend : Mv → Prop) (q : Qs) : Prop where
  len : q.1.length = n
  todo : ∀ x ∈ q.2, 0 ≤ x ∧ x < n ∧ hasB q.1 x.toNat = true
  sound : ∀ i, hasB q.1 i = true → Rch L st s i
  closed : ∀ v ∈ L, st v = true → hasB q.1 v.src.toNat = true → v.src ∈ q.2 ∨ hasB q.1 v.dst.toNat = true ∨ pend v
def inR (L : List Mv) (n : Nat) : Prop := ∀ v ∈ L, 0 ≤ v.src ∧ v.src < n ∧ 0 ≤ v.dst ∧ v.dst < n
variable {L : List Mv} {st : Mv → Bool} {s : Nat → Bool} {n : Nat} {pend : Mv → Prop} {q : Qs}
theorem QInv.enter (hL : inR L n) (h : QInv L st s n pend q) {x : Int} (h0 : 0 ≤ x) (hx : x < n) (hr : Rch L st s x.toNat) : QInv L st s n pend (enterQ q x) ∧ hasB (enterQ q x).1 x.toNat = true ∧ ∀ i, hasB q.1 i = true → hasB (enterQ q x).1 i = true := by
  by_cases hb : hasB q.1 x.toNat = true
  · have e : enterQ q x = q := if_pos hb
    rw [e]
    exact ⟨h, hb, fun _ hi => hi⟩
  · have e : enterQ q x = (q.1.set x.toNat true, q.2 ++ [x]) := if_neg hb
    have hlt : x.toNat < q.1.length := by rw [h.len]; omega
    have hset : ∀ i, hasB (q.1.set x.toNat true) i = if x.toNat = i ∧ x.toNat < q.1.length then true else hasB q.1 i := zka _ _
    have mono : ∀ i, hasB q.1 i = true → hasB (q.1.set x.toNat true) i = true := fun i hi => by rw [hset]; split <;> simp_all
    have here : hasB (q.1.set x.toNat true) x.toNat = true := by rw [hset, if_pos ⟨rfl, hlt⟩]
    rw [e]
    refine ⟨⟨by simp [h.len], fun y hy => ?_, fun i hi => ?_, fun v hv hs hi => ?_⟩, here, mono⟩
    · rcases List.mem_append.1 hy with hy | hy
      · obtain ⟨a, b, c⟩ := h.todo y hy; exact ⟨a, b, mono _ c⟩
      · rw [List.mem_singleton] at hy; subst hy; exact ⟨h0, hx, here⟩
    · have hi : hasB (q.1.set x.toNat true) i = true := hi
      rw [hset] at hi
      split at hi
      · rename_i hc; rw [← hc.1]; exact hr
      · exact h.sound i hi
    · have hi : hasB (q.1.set x.toNat true) v.src.toNat = true := hi
      rw [hset] at hi
      split at hi
      · rename_i hc
        have h1 := (hL v hv).1
        exact .inl (List.mem_append.2 (.inr (by rw [List.mem_singleton]; omega)))
      · rcases h.closed v hv hs hi with h1 | h1 | h1
        · exact .inl (List.mem_append.2 (.inl h1))
        · exact .inr (.inl (mono _ h1))
        · exact .inr (.inr h1)
theorem QInv.none (n : Nat) : QInv L st s n pend (List.replicate n false, []) :=
  ⟨by simp, fun x hx => absurd hx List.not_mem_nil, fun i hi => (by rw [zhb] at hi; cases hi), fun v _ _ hi => (by rw [zhb] at hi; cases hi)⟩
end Go.Proofs.YtjhkehloipmjfaaGreat
namespace Go.Proofs.YtjhkehloipmjfaaGreat
variable {L : List Mv} {st : Mv → Bool} {s : Nat → Bool} {n : Nat}
end Go.Proofs.YtjhkehloipmjfaaGreat
namespace Go.Proofs.YtjhkehloipmjfaaGreat
open Go.RowKit
section
variable {X : Ctx} {γ : Nat → Nat} {T : Nat → Value} {S : Nat → Nat → Prop} {w w' : World} {fr : Fr} {σ : Obs} {a : Act} {o : Oper} {ops : Array Oper} {rest : List Oper} {Q : Fr → Obs → Prop}
end
section
variable {w0 : W0} {S0 : Nat → Nat → Prop} {nt : Nat} {fr fr1 : Fr} {σ σ1 : Obs} {o : Oper} {ops : Array Oper} {rest : List Oper} {d k : Nat} {t : TypeId} {i : TyI} {Q : Fr → Obs → Prop}
end
end Go.Proofs.YtjhkehloipmjfaaGreat
namespace Go.Proofs.YtjhkehloipmjfaaGreat
open Go.RowKit
def preOk (l tl : List Oper) : Bool :=
  Region.noSelect (l ++ tl).toArray && regOkA (l ++ tl).toArray l &&
  ((List.range tl.length).all fun j => match tl[j]? with
    | some o => (o.after.all fun e => !Region.binds .any e || decide (e.on < l.length + j)) && (reachO (l ++ tl) (l.length + j) [l.length + j]).contains l.length
    | none => false) &&
  (List.range l.length).all fun j => (reachO (l ++ tl) l.length [l.length]).contains j
section
variable {X : Ctx} {fr fr0 : Fr} {σ σ' : Obs} {a : Act} {w : World} {l tl : List Oper} {o : Oper} {τ0 σB : Obs} {xs : Nat → VV} {es : Nat → Eff} {fs : Nat → Fr} {Ks : Nat → List Cr} {Cs : Nat → Cons}
theorem zhm (hne : 0 < tl.length) (h : Found X (l ++ tl).toArray l τ0 σB fr0 xs es fs Ks Cs) (hpre : preOk l tl = true) {QQ : Exit → Act → World → Prop}
    (hq : ∀ γ T S w a listed fuel, Rel X γ T S w (fs l.length) (finS τ0 σB (Ks l.length) (Cs l.length)) a → listed.size = (l ++ tl).length → (∀ j, j < l.length → listed.getD j true = true) → (∀ j, l.length ≤ j → j < (l ++ tl).length → listed.getD j true = false) → tl.length ≤ fuel → wpAny X.P .any (l ++ tl).toArray QQ fuel listed a w) :
    ∀ (fuel : Nat) (listed : Array Bool) (a : Act) (w : World), listed.size = (l ++ tl).length →
    (∀ i p, (l ++ tl)[i]? = some p → listed.getD i true = true → ∀ e ∈ p.after, Region.binds .any e = true → listed.getD e.on true = true) → fuel = (listed.toList.filter (fun b => !b)).length → (∀ j, l.length ≤ j → j < (l ++ tl).length → listed.getD j true = false) → InvL X l τ0 σB fr0 xs es (fun j => listed.getD j true) a w → wpAny X.P .any (l ++ tl).toArray QQ fuel listed a w := by
  unfold preOk at hpre
  simp only [Bool.and_eq_true, List.all_eq_true] at hpre
  obtain ⟨⟨⟨_, _⟩, htail⟩, hreach⟩ := hpre
  have hsum : (l ++ tl).length = l.length + tl.length := List.length_append
  have hpre : ∀ (i : Nat) (p : Oper), l[i]? = some p → (l ++ tl)[i]? = some p := fun i p hp => by
    rw [List.getElem?_append_left (List.getElem?_eq_some_iff.1 hp).1]; exact hp
  have htl : ∀ (j : Nat) (p : Oper), tl[j]? = some p → (∀ e ∈ p.after, Region.binds .any e = true → e.on < l.length + j) ∧ (reachO (l ++ tl) (l.length + j) [l.length + j]).contains l.length = true := fun j p hp => by
    have h1 := htail j (List.mem_range.2 (List.getElem?_eq_some_iff.1 hp).1)
    rw [hp] at h1
    simp only [Bool.and_eq_true, Array.all_eq_true_iff_forall_mem] at h1
    refine ⟨fun e he hb => ?_, h1.2⟩
    have h5 := h1.1 e he
    rw [hb] at h5; simpa using h5
  have tf : ∀ (listed : Array Bool) (j : Nat), listed.size = (l ++ tl).length → j < (l ++ tl).length → (listed.getD j false = listed.getD j true) := by
    intro listed j hsz hj
    have : j < listed.size := by omega
    simp only [Array.getD, this, dif_pos]
  have ahead : ∀ (i : Nat) (p : Oper), (l ++ tl)[i]? = some p → ∀ e ∈ p.after, Region.binds .any e = true → e.on < i := by
    intro i p hp e he hb
    by_cases hi : i < l.length
    · rw [List.getElem?_append_left hi] at hp
      exact (zbl h.ok hp).2.1 e he hb
    · rw [List.getElem?_append_right (by omega)] at hp
      have := (htl _ p hp).1 e he hb; omega
  have none_ready : ∀ (listed : Array Bool), listed.size = (l ++ tl).length → Region.ready .any (l ++ tl).toArray listed = [] → ∀ i, i < (l ++ tl).length → listed.getD i true = true := by
    intro listed hsz hr i
    induction i using Nat.strongRecOn with
    | _ i ih =>
      intro hi
      cases hb : listed.getD i true with
      | true => rfl
      | false =>
        have ho : (l ++ tl)[i]? = some (l ++ tl)[i] := List.getElem?_eq_getElem hi
        have : i ∈ Region.ready .any (l ++ tl).toArray listed := mem_ready.2 ⟨hb, (l ++ tl)[i], by simp, fun e he hb => by
          have hlt := ahead i _ ho e he hb
          rw [tf listed _ hsz (by omega)]
          exact ih e.on hlt (by omega)⟩
        rw [hr] at this
        cases this
  intro fuel
  induction fuel with
  | zero =>
    intro listed a w hsz hcl hf hun hfr
    exfalso
    have hlt : l.length < listed.size := by omega
    have hn := List.eq_nil_of_length_eq_zero hf.symm
    rw [List.filter_eq_nil_iff] at hn
    have := hn listed[l.length] (by simp)
    have hx : listed[l.length] = false := by simpa [Array.getD, hlt] using hun l.length (Nat.le_refl _) (by omega)
    rw [hx] at this
    exact this rfl
  | succ fuel ih =>
    intro listed a w hsz hcl hf hun0 hfr
    by_cases hall : ∀ j, j < l.length → listed.getD j true = true
    · obtain ⟨γ, T, S, hr⟩ := hfr.done h hall
      refine hq γ T S w a listed (fuel + 1) hr hsz hall hun0 ?_
      have e1 : listed.toList.filter (fun b => !b) = (listed.toList.take l.length).filter (fun b => !b) ++ (listed.toList.drop l.length).filter (fun b => !b) := by rw [← List.filter_append, List.take_append_drop]
      have e2 : (listed.toList.drop l.length).filter (fun b => !b) = listed.toList.drop l.length := by
        rw [List.filter_eq_self]
        intro b hb
        obtain ⟨k, hk, rfl⟩ := List.mem_iff_getElem.1 hb
        rw [List.length_drop] at hk
        have hk2 : l.length + k < listed.size := by simp at hk; omega
        have h7 := hun0 (l.length + k) (by omega) (by omega)
        simp only [Array.getD, hk2, dif_pos] at h7
        rw [List.getElem_drop]
        simpa using h7
      rw [hf, e1, List.length_append, e2, List.length_drop]
      simp only [Array.length_toList]
      omega
    refine ⟨fun hr => (by have := none_ready listed hsz hr l.length (by omega); rw [hun0 _ (Nat.le_refl _) (by omega)] at this; cases this), fun i hi => ?_⟩
    obtain ⟨hun, p, hp, hdeps⟩ := mem_ready.1 hi
    have hp' : (l ++ tl)[i]? = some p := by simpa using hp
    have hlt : i < (l ++ tl).length := (List.getElem?_eq_some_iff.1 hp').1
    have hdeps' : ∀ e ∈ p.after, Region.binds .any e = true → listed.getD e.on true = true := fun e he hb => by
      rw [← tf listed _ hsz (by have := ahead i p hp' e he hb; omega)]; exact hdeps e he hb
    have hL : ∀ j, (listed.setIfInBounds i true).getD j true = true ↔ (j = i ∨ listed.getD j true = true) := by
      intro j
      by_cases hij : i = j
      · subst hij
        have : i < listed.size := by omega
        simp [this]
      · rw [getD_set_ne true hij]; simp [Ne.symm hij]
    have hcl' : ∀ j q, (l ++ tl)[j]? = some q → (listed.setIfInBounds i true).getD j true = true → ∀ e ∈ q.after, Region.binds .any e = true → (listed.setIfInBounds i true).getD e.on true = true := by
      intro j q hq hj e he hb
      refine (hL _).2 (.inr ?_)
      rcases (hL j).1 hj with rfl | hj
      · rw [hp'] at hq
        injection hq with hq
        subst hq
        exact hdeps' e he hb
      · exact hcl j q hq hj e he hb
    have hfuel : fuel = ((listed.setIfInBounds i true).toList.filter (fun b => !b)).length := by
      have hil : i < listed.size := by omega
      have hfi : listed[i] = false := by simpa [Array.getD, hil] using hun
      have hc : ∀ (l : List Bool) (k : Nat) (hkl : k < l.length), l[k] = false → ((l.set k true).filter (fun b => !b)).length + 1 = (l.filter (fun b => !b)).length := by
        intro l
        induction l with
        | nil => intro k hkl; simp at hkl
        | cons b l ih2 =>
          intro k hkl hb
          cases k with
          | zero => simp only [List.getElem_cons_zero] at hb; subst hb; simp
          | succ k =>
            simp only [List.getElem_cons_succ] at hb
            have := ih2 k (by simpa using hkl) hb
            cases b <;> simp at this ⊢ <;> omega
      have := hc listed.toList i (by simpa using hil) (by simpa using hfi)
      rw [Array.toList_setIfInBounds]
      omega
    have hin : i < l.length := by
      refine Classical.byContradiction fun hge => hall fun j hj => ?_
      have hti : tl[i - l.length]? = some p := by rw [List.getElem?_append_right (by omega)] at hp'; exact hp'
      have h6 := (htl _ p hti).2
      rw [show l.length + (i - l.length) = i by omega] at h6
      have h7 := zbx hcl' i [i] (fun k hk => by obtain rfl := List.mem_singleton.1 hk; exact (hL _).2 (.inl rfl)) l.length (by simpa using h6)
      have hil : i = l.length := by
        rcases (hL _).1 h7 with e | e
        · exact e.symm
        · rw [hun0 _ (Nat.le_refl _) (by omega)] at e; cases e
      have h8 := zbx hcl' l.length [l.length] (fun k hk => by obtain rfl := List.mem_singleton.1 hk; exact h7) j (by simpa using hreach j (List.mem_range.2 hj))
      exact ((hL j).1 h8).resolve_left (by omega)
    unfold wpOp
    simp only [hp]
    have ho' : l[i]? = some p := by rw [List.getElem?_append_left hin] at hp'; exact hp'
    have hlast' : ∀ j, l.length ≤ j → j < (l ++ tl).length → (listed.setIfInBounds i true).getD j true = false := fun j h1 h2 => by
      rw [getD_set_ne true (by omega)]; exact hun0 j h1 h2
    have go : ∀ a' w', InvL X l τ0 σB fr0 xs es (fun j => (listed.setIfInBounds i true).getD j true) a' w' → wpAny X.P .any (l ++ tl).toArray QQ fuel (listed.setIfInBounds i true) a' w' := fun a' w' hw' => ih _ _ w' (by simpa using hsz) hcl' hfuel hlast' hw'
    rcases hfr.step h ho' (L' := fun j => (listed.setIfInBounds i true).getD j true) hL hun hdeps' (fun j q hq hj => hcl j q (hpre j q hq) hj) with ⟨hw, hout⟩ | ⟨hw, hinv⟩
    · rw [if_pos hw]
      exact .inl (hout.wp fun v w' hv => go _ w' hv)
    · rw [if_neg (by rw [hw]; decide)]
      exact go _ w hinv
def TailOk (X : Ctx) (l tl : List Oper) (fr : Fr) (σ : Obs) (QQ : Exit → Act → World → Prop) : Prop :=
  ∀ γ T S w a listed fuel, Rel X γ T S w fr σ a → listed.size = (l ++ tl).length → (∀ j, j < l.length → listed.getD j true = true) → (∀ j, l.length ≤ j → j < (l ++ tl).length → listed.getD j true = false) → tl.length ≤ fuel → wpAny X.P .any (l ++ tl).toArray QQ fuel listed a w
theorem zk0 {id : Nat} {QQ : Exit → Fr → Obs → Prop} (hm : X.P.follows .mixedOrders = true) (τ0 σB : Obs) (hne : 0 < tl.length) (hok : preOk l tl = true) (hs1 : ∀ p ∈ τ0, look σ p.1 = some p.2) (hs2 : Sub σB σ) (h : DSeq X (l ++ tl).toArray τ0 σB (fun fr σ => TailOk X l tl fr σ (LQ X QQ)) 0 [] [] l fr) : W X (.region id (l ++ tl).toArray true) fr σ QQ :=
  ⟨fun γ T S w a hr => by
    obtain ⟨xs, es, fs, Ks, Cs, h1, h2, h3, h4, h5⟩ := zc8 l 0 [] [] fr h
    simp only [Nat.zero_add] at h4 h5
    have hok2 := hok
    unfold preOk at hok2
    simp only [Bool.and_eq_true] at hok2
    have hF : Found X (l ++ tl).toArray l τ0 σB fr xs es fs Ks Cs := ⟨hok2.1.1.2, h1, h2, h3, h4⟩
    refine wp_region_any hm ?_
    have hr0 : Rel X γ T S { w with drawn := w.drawn + 1 } fr σ a := hr.grow ⟨rfl, rfl, rfl, Nat.le_refl _, fun _ _ => rfl⟩ (fun _ _ h => h) (fun _ _ h => .inl h)
    have hun : ∀ j, j < (l ++ tl).length → (Array.replicate (l ++ tl).length false).getD j true = false := fun j hj => by
      simp only [Array.getD, Array.size_replicate, hj, dif_pos]
      simp
    have hsz : (l ++ tl).toArray.size = (l ++ tl).length := by simp
    have hsum : (l ++ tl).length = l.length + tl.length := List.length_append
    rw [hsz]
    refine zhm hne hF hok (QQ := LQ X QQ) h5 (l ++ tl).length (Array.replicate (l ++ tl).length false) a { w with drawn := w.drawn + 1 } (by simp) (fun i p hp hi => ?_) (by simp) (fun j _ hj => hun j hj) ⟨γ, T, S, fr, σ, hr0, fun t x hx => ?_, hs2, fun k ob hk => ?_⟩
    · have hlt : i < (l ++ tl).length := (List.getElem?_eq_some_iff.1 hp).1
      rw [hun i hlt] at hi; cases hi
    · unfold FL at hx
      cases hw : wrO l t with
      | none => rw [hw] at hx; exact hx
      | some j =>
        rw [hw] at hx
        obtain ⟨p, hp, _⟩ := zcc hw
        have hlt := (List.getElem?_eq_some_iff.1 hp).1
        simp only [hun j (by omega), Bool.false_eq_true, if_false] at hx
        exact hx
    · rcases hk with hk | ⟨j, o, b, hj, ho, _⟩
      · rcases hk.2 with h6 | ⟨j, o, hj, ho, _⟩
        · exact hs1 _ h6
        · have hlt := (List.getElem?_eq_some_iff.1 ho).1
          simp only [hun j (by omega)] at hj; cases hj
      · have hlt := (List.getElem?_eq_some_iff.1 ho).1
        simp only [hun j (by omega)] at hj; cases hj⟩
end
end Go.Proofs.YtjhkehloipmjfaaGreat
namespace Go.Proofs.YtjhkehloipmjfaaGreat
open Go.RowKit
theorem zbJ {o : Oper} (h : o.guard = none) (y : Nat → Option Bool) : Region.wanted o y = true := by unfold Region.wanted; rw [h]
def LS (n i j : Nat) (listed : Array Bool) : Prop := listed.size = n + 6 ∧ ∀ x, x < n + 6 → (listed.getD x true = true ↔ (x ≤ n ∨ (n + 1 ≤ x ∧ x < n + 1 + i) ∨ (n + 3 ≤ x ∧ x < n + 3 + j)))
theorem LS.set {n i j i' j' x : Nat} {listed : Array Bool} (h : LS n i j listed) (hx : x < n + 6) (hc : ∀ y, y < n + 6 → ((y ≤ n ∨ (n + 1 ≤ y ∧ y < n + 1 + i') ∨ (n + 3 ≤ y ∧ y < n + 3 + j')) ↔ (y = x ∨ (y ≤ n ∨ (n + 1 ≤ y ∧ y < n + 1 + i) ∨ (n + 3 ≤ y ∧ y < n + 3 + j))))) : LS n i' j' (listed.setIfInBounds x true) := by
  refine ⟨by simpa using h.1, fun y hy => ?_⟩
  rw [hc y hy]
  by_cases e : x = y
  · subst e
    have : x < listed.size := by rw [h.1]; exact hx
    simp [this]
  · rw [getD_set_ne true e, h.2 y hy]
    exact ⟨.inr, fun h => h.resolve_left (Ne.symm e)⟩
theorem LS.f {n i j x : Nat} {listed : Array Bool} (h : LS n i j listed) (hx : x < n + 6) : listed.getD x false = listed.getD x true := by
  have : x < listed.size := by rw [h.1]; exact hx
  simp only [Array.getD, this, dif_pos]
structure Bs (L : List Nat) (a1 a : Act) : Prop where
  tm : ∀ t, t ∉ L → a.tmps.getD t undef = a1.tmps.getD t undef
  sz : a.tmps.size = a1.tmps.size
  df : a.defers = a1.defers
theorem zdw {a : Act} {d : Nat} (v : Value) (h : d < a.tmps.size) : (a.put (some d) v).tmps.getD d undef = v := by
  simp [Act.put, h]
theorem zbO {a : Act} {d t : Nat} (v : Value) (h : t ≠ d) : (a.put (some d) v).tmps.getD t undef = a.tmps.getD t undef := by
  simp [Act.put, Array.getD_eq_getD_getElem?, Ne.symm h]
theorem Bs.put {L : List Nat} {a1 a : Act} (h : Bs L a1 a) {d : Nat} (hd : d ∈ L) (v : Value) : Bs L a1 (a.put (some d) v) :=
  ⟨fun t ht => (zbO v (by rintro rfl; exact ht hd)).trans (h.tm t ht), by simpa [Act.put] using h.sz, h.df⟩
section
variable {P : Program} {ops : Array Oper} {QQ : Exit → Act → World → Prop} {n : Nat} {oI oS oN oF oH : Oper} {dI dN dF : Nat} {pI pN pF : Value} {a1 : Act} {W00 W10 W01 W11 : World}
def WS (W00 W10 W01 W11 : World) (i j : Nat) : World := if i = 2 then (if j = 3 then W11 else W10) else (if j = 3 then W01 else W00)
theorem tail5 (hsz : ops.size = n + 6) (gI : ops[n + 1]? = some oI) (gS : ops[n + 2]? = some oS) (gN : ops[n + 3]? = some oN) (gF : ops[n + 4]? = some oF) (gH : ops[n + 5]? = some oH)
    (eI : ∀ e ∈ oI.after, Region.binds .any e = true → e.on ≤ n) (eS : ∀ e ∈ oS.after, Region.binds .any e = true → e.on ≤ n + 1) (cS : ∃ e ∈ oS.after, Region.binds .any e = true ∧ e.on = n + 1)
    (eN : ∀ e ∈ oN.after, Region.binds .any e = true → e.on ≤ n) (eF : ∀ e ∈ oF.after, Region.binds .any e = true → e.on ≤ n ∨ e.on = n + 3) (cF : ∃ e ∈ oF.after, Region.binds .any e = true ∧ e.on = n + 3)
    (eH : ∀ e ∈ oH.after, Region.binds .any e = true → e.on ≤ n ∨ e.on = n + 3 ∨ e.on = n + 4) (cH : ∃ e ∈ oH.after, Region.binds .any e = true ∧ e.on = n + 4)
    (uI : oI.guard = none) (uS : oS.guard = none) (uN : oN.guard = none) (uF : oF.guard = none) (uH : oH.guard = none)
    (dI_ : oI.dst = some dI) (dS_ : oS.dst = none) (dN_ : oN.dst = some dN) (dF_ : oF.dst = some dF) (dH_ : oH.dst = none) (lI : dI < a1.tmps.size) (lN : dN < a1.tmps.size) (lF : dF < a1.tmps.size) (nIN : dI ≠ dN) (nIF : dI ≠ dF) (nNF : dN ≠ dF)
    (hI : ∀ a w, Bs [dI, dN, dF] a1 a → (execOp a.eval oI).run P w = .ok (.value pI) w)
    (hS : ∀ a j, Bs [dI, dN, dF] a1 a → a.tmps.getD dI undef = pI → (execOp a.eval oS).run P (WS W00 W10 W01 W11 1 j) = .ok .skip (WS W00 W10 W01 W11 2 j))
    (hN : ∀ a w, Bs [dI, dN, dF] a1 a → (execOp a.eval oN).run P w = .ok (.value pN) w)
    (hF : ∀ a w, Bs [dI, dN, dF] a1 a → a.tmps.getD dN undef = pN → (execOp a.eval oF).run P w = .ok (.value pF) w)
    (hH : ∀ a i, Bs [dI, dN, dF] a1 a → a.tmps.getD dF undef = pF → (execOp a.eval oH).run P (WS W00 W10 W01 W11 i 2) = .ok .skip (WS W00 W10 W01 W11 i 3))
    (hQ : ∀ a, Bs [dI, dN, dF] a1 a → a.tmps.getD dI undef = pI → a.tmps.getD dN undef = pN → a.tmps.getD dF undef = pF → QQ .normal a W11) :
    ∀ (k i j : Nat) (a : Act) (listed : Array Bool) (fuel : Nat), i ≤ 2 → j ≤ 3 → i + j + k = 5 → k ≤ fuel → LS n i j listed → Bs [dI, dN, dF] a1 a → (1 ≤ i → a.tmps.getD dI undef = pI) → (1 ≤ j → a.tmps.getD dN undef = pN) → (2 ≤ j → a.tmps.getD dF undef = pF) → wpAny P .any ops QQ fuel listed a (WS W00 W10 W01 W11 i j) := by
  intro k
  induction k with
  | zero =>
    intro i j a listed fuel hi hj hk hf hL hb b1 b2 b3
    obtain rfl : i = 2 := by omega
    obtain rfl : j = 3 := by omega
    refine wpAny_done ?_ (hQ a hb (b1 (by omega)) (b2 (by omega)) (b3 (by omega))) fuel
    rw [List.eq_nil_iff_forall_not_mem]
    intro x hx
    obtain ⟨h1, q, hq, _⟩ := mem_ready.1 hx
    have hlt : x < n + 6 := by rw [← hsz]; exact (Array.getElem?_eq_some_iff.1 hq).1
    have := (hL.2 x hlt).2 (by omega)
    rw [h1] at this; cases this
  | succ k ih =>
    intro i j a listed fuel hi hj hk hf hL hb b1 b2 b3
    obtain ⟨f, rfl⟩ : ∃ f, fuel = f + 1 := ⟨fuel - 1, by omega⟩
    have un : ∀ x, x < n + 6 → ¬ (x ≤ n ∨ (n + 1 ≤ x ∧ x < n + 1 + i) ∨ (n + 3 ≤ x ∧ x < n + 3 + j)) → listed.getD x true = false := fun x hx h => by
      cases hb : listed.getD x true with
      | false => rfl
      | true => exact absurd ((hL.2 x hx).1 hb) h
    have li : ∀ x, x < n + 6 → (x ≤ n ∨ (n + 1 ≤ x ∧ x < n + 1 + i) ∨ (n + 3 ≤ x ∧ x < n + 3 + j)) → listed.getD x false = true := fun x hx h => by
      rw [hL.f hx]; exact (hL.2 x hx).2 h
    have il : ∀ x, x < n + 6 → listed.getD x false = true → (x ≤ n ∨ (n + 1 ≤ x ∧ x < n + 1 + i) ∨ (n + 3 ≤ x ∧ x < n + 3 + j)) := fun x hx h => by
      rw [hL.f hx] at h; exact (hL.2 x hx).1 h
    refine ⟨fun hr => ?_, fun x hx => ?_⟩
    · exfalso
      have hno : ∀ x o, ops[x]? = some o → listed.getD x true = false → (∀ e ∈ o.after, Region.binds .any e = true → listed.getD e.on false = true) → False := fun x o h1 h2 h3 => by
        have := mem_ready.2 ⟨h2, o, h1, h3⟩
        rw [hr] at this; cases this
      by_cases i0 : i = 0
      · exact hno _ _ gI (un _ (by omega) (by omega)) fun e he hbd => by have := eI e he hbd; exact li _ (by omega) (by omega)
      by_cases i1 : i = 1
      · exact hno _ _ gS (un _ (by omega) (by omega)) fun e he hbd => by have := eS e he hbd; exact li _ (by omega) (by omega)
      by_cases j0 : j = 0
      · exact hno _ _ gN (un _ (by omega) (by omega)) fun e he hbd => by have := eN e he hbd; exact li _ (by omega) (by omega)
      by_cases j1 : j = 1
      · exact hno _ _ gF (un _ (by omega) (by omega)) fun e he hbd => by have := eF e he hbd; exact li _ (by omega) (by omega)
      · exact hno _ _ gH (un _ (by omega) (by omega)) fun e he hbd => by have := eH e he hbd; exact li _ (by omega) (by omega)
    · obtain ⟨h1, o, ho, hdep⟩ := mem_ready.1 hx
      have hlt : x < n + 6 := by rw [← hsz]; exact (Array.getElem?_eq_some_iff.1 ho).1
      have hnot : ¬ (x ≤ n ∨ (n + 1 ≤ x ∧ x < n + 1 + i) ∨ (n + 3 ≤ x ∧ x < n + 3 + j)) := fun h => by
        have := (hL.2 x hlt).2 h; rw [h1] at this; cases this
      have lis : ∀ d, d ∈ [dI, dN, dF] → d < a.tmps.size := fun d hd => by
        rw [hb.sz]
        simp only [List.mem_cons, List.not_mem_nil, or_false] at hd
        rcases hd with rfl | rfl | rfl <;> assumption
      have mI : dI ∈ [dI, dN, dF] := List.mem_cons_self
      have mN : dN ∈ [dI, dN, dF] := List.mem_cons_of_mem _ List.mem_cons_self
      have mF : dF ∈ [dI, dN, dF] := List.mem_cons_of_mem _ (List.mem_cons_of_mem _ List.mem_cons_self)
      have hcase : x = n + 1 ∨ x = n + 2 ∨ x = n + 3 ∨ x = n + 4 ∨ x = n + 5 := by omega
      unfold wpOp
      rcases hcase with rfl | rfl | rfl | rfl | rfl
      · have i0 : i = 0 := by omega
        subst i0
        simp only [gI]
        rw [if_pos (zbJ uI _)]
        refine .inl ?_
        unfold Oper.wp
        rw [hI a _ hb]
        show wpAny P .any ops QQ f _ (a.put oI.dst pI) (WS W00 W10 W01 W11 0 j)
        rw [dI_]
        have e : WS W00 W10 W01 W11 0 j = WS W00 W10 W01 W11 1 j := by simp [WS]
        rw [e]
        exact ih 1 j _ _ f (by omega) hj (by omega) (by omega) (hL.set (by omega) (fun y hy => by omega)) (hb.put mI pI) (fun _ => zdw pI (lis dI mI)) (fun h => (zbO pI (Ne.symm nIN)).trans (b2 h)) (fun h => (zbO pI (Ne.symm nIF)).trans (b3 h))
      · have i1 : i = 1 := by
          rw [gS] at ho; injection ho with ho; subst ho
          obtain ⟨e, he, hbd, heq⟩ := cS
          have := il (n + 1) (by omega) (heq ▸ hdep e he hbd); omega
        subst i1
        simp only [gS]
        rw [if_pos (zbJ uS _)]
        refine .inl ?_
        unfold Oper.wp
        rw [hS a j hb (b1 (by omega))]
        show wpAny P .any ops QQ f _ (a.put oS.dst undef) (WS W00 W10 W01 W11 2 j)
        rw [dS_]
        exact ih 2 j _ _ f (by omega) hj (by omega) (by omega) (hL.set (by omega) (fun y hy => by omega)) hb (fun _ => b1 (by omega)) b2 b3
      · have j0 : j = 0 := by omega
        subst j0
        simp only [gN]
        rw [if_pos (zbJ uN _)]
        refine .inl ?_
        unfold Oper.wp
        rw [hN a _ hb]
        show wpAny P .any ops QQ f _ (a.put oN.dst pN) (WS W00 W10 W01 W11 i 0)
        rw [dN_]
        have e : WS W00 W10 W01 W11 i 0 = WS W00 W10 W01 W11 i 1 := by unfold WS; rfl
        rw [e]
        exact ih i 1 _ _ f hi (by omega) (by omega) (by omega) (hL.set (by omega) (fun y hy => by omega)) (hb.put mN pN) (fun h => (zbO pN nIN).trans (b1 h)) (fun _ => zdw pN (lis dN mN)) (fun h => absurd h (by omega))
      · have j1 : j = 1 := by
          rw [gF] at ho; injection ho with ho; subst ho
          obtain ⟨e, he, hbd, heq⟩ := cF
          have := il (n + 3) (by omega) (heq ▸ hdep e he hbd); omega
        subst j1
        simp only [gF]
        rw [if_pos (zbJ uF _)]
        refine .inl ?_
        unfold Oper.wp
        rw [hF a _ hb (b2 (by omega))]
        show wpAny P .any ops QQ f _ (a.put oF.dst pF) (WS W00 W10 W01 W11 i 1)
        rw [dF_]
        have e : WS W00 W10 W01 W11 i 1 = WS W00 W10 W01 W11 i 2 := by unfold WS; rfl
        rw [e]
        exact ih i 2 _ _ f hi (by omega) (by omega) (by omega) (hL.set (by omega) (fun y hy => by omega)) (hb.put mF pF) (fun h => (zbO pF nIF).trans (b1 h)) (fun _ => (zbO pF nNF).trans (b2 (by omega))) (fun _ => zdw pF (lis dF mF))
      · have j2 : j = 2 := by
          rw [gH] at ho; injection ho with ho; subst ho
          obtain ⟨e, he, hbd, heq⟩ := cH
          have := il (n + 4) (by omega) (heq ▸ hdep e he hbd); omega
        subst j2
        simp only [gH]
        rw [if_pos (zbJ uH _)]
        refine .inl ?_
        unfold Oper.wp
        rw [hH a i hb (b3 (by omega))]
        show wpAny P .any ops QQ f _ (a.put oH.dst undef) (WS W00 W10 W01 W11 i 3)
        rw [dH_]
        exact ih i 3 _ _ f hi (by omega) (by omega) (by omega) (hL.set (by omega) (fun y hy => by omega)) hb b1 (fun _ => b2 (by omega)) (fun _ => b3 (by omega))
end
end Go.Proofs.YtjhkehloipmjfaaGreat
namespace Go.Proofs.YtjhkehloipmjfaaGreat
open Go.RowKit
section
variable {X : Ctx} {γ : Nat → Nat} {T : Nat → Value} {S : Nat → Nat → Prop} {w : World} {fr : Fr} {σ : Obs} {a : Act} {o : Oper}
theorem zhy (hT : Good X) {t ty e : TypeId} {k sz : Nat} {i ie : TyI} {rows news : List (List D)} (hr : Rel X γ T S w fr σ a) (hk : look σ k = some (.tok e sz)) {v xv : Value} (hv : RC γ T S w (.own k rows) v) (hx : RD S w (.sl news) xv)
    (hi : X.Ty t = some i) (hit : i.tag = 2) (hie : i.elem = e) (he : X.Ty e = some ie) (hsz : ie.size = sz) (h1 : sized sz rows = true) (h2 : sized sz news = true) (hbd : (rows.length + news.length) * ie.bytes ≤ 140737488355328) :
    ∃ v' w' S', (Builtin.append_ #[t, t] ty #[v, xv]).run X.P w = .ok v' w' ∧ (∃ xs', w'.ownsRow 0 e sz v' (rows.length + news.length) xs') ∧ w.grownBy w' (T k).ownBlock ∧ Kp S w w' ∧ (∀ g, v'.ownBlock = some g → (T k).ownBlock = some g ∨ w.heap.size ≤ g) ∧
      (∀ b o, S b o → S' b o) ∧ (∀ b o, S' b o → S b o ∨ (v'.ownBlock = some b ∧ b < w'.heap.size)) ∧ (∀ g, v'.ownBlock = some g → ∀ o, S' g o → o < (rows.length + news.length) * sz) ∧ RD S' w' (.sl (rows ++ news)) v' ∧
      (∀ g, v'.ownBlock = some g → ∀ (i : Nat) (q : List D), rows[i]? = some q → ∀ (j : Nat) (x : D), q[j]? = some x → ∃ u, RD S w' x u ∧ w'.cell? ⟨g, i * sz + j, none⟩ = some u) ∧ (∀ g, (T k).ownBlock = some g → ∀ o, S g o → o < rows.length * sz) := by
  obtain ⟨inf, d0, g1, g2, g3, g4, g5, g6, g7, g8, g9, g10⟩ := (hT t i hi).get
  obtain ⟨inf', d', g1', g2', g3', g4', g5', _⟩ := (hT e ie he).get
  rw [hit] at g10
  cases d0 with
  | slice el =>
    simp only [elemOfD] at g7
    rw [hie] at g7; subst g7
    obtain ⟨xs, f1, f2⟩ := zh1 (hr.st.obj k _ hk) hv
    have hzl : (if ie.agg = true then Value.agg ie.zero.toArray else ie.zero.headD undef).cells.size = sz := by
      have hzl := (hT el ie he).zlen
      split
      · simp [Value.cells, hzl, hsz]
      · have hp := (hT el ie he).pos
        cases hz : ie.zero with
        | nil => rw [hz] at hzl; simp at hzl; omega
        | cons u us =>
          have h1c : u.oneCell' = true := by have := (hT el ie he).z1; rw [hz] at this; simp only [List.all_cons, Bool.and_eq_true] at this; exact this.1
          rename_i hna
          simp only [List.headD_cons, cells1v h1c]
          have hsc : ie.size = 1 := by
            have := (hT el ie he).sca
            exact this (by simpa using hna)
          rw [← hsz, hsc]; rfl
    obtain ⟨v', w', S', r1, r2, r3, r4, r5, r6, r7, r8, r9, r10, _⟩ := zeH (P := X.P) (t := t) (ty := ty) g2 g1' g5' (g3'.trans hsz) g4' hzl (by rw [← hsz]; exact (hT el ie he).pos) xs f1 hv.1 h1 hx h2 hbd (hT el ie he).bpos f2 hr.st.lt
    rw [← hv.2] at r3 r5 f2
    exact ⟨v', w', S', r1, r2, r3, r4, r5, r6, r7, r8, r9, r10, f2⟩
  | _ => simp [tagOf] at g10
theorem zhs (w : World) (a b : Nat) (x y : Array Value) (h : a ≠ b) : (w.setRow a x).setRow b y = (w.setRow b y).setRow a x := by
  unfold World.setRow
  congr 1
  apply Array.ext_getElem?
  intro i
  simp only [Array.getElem?_modify]
  by_cases h1 : b = i
  · by_cases h2 : a = i
    · exact absurd (h2.trans h1.symm) h
    · simp [h1, h2]
  · simp [h1]
theorem zlu {e : TypeId} {k sz g cap : Nat} {rows : List (List D)} {Z cs : List D} {v' : Value} {w' : World} {S' : Nat → Nat → Prop} {us : List Value} (hr : Rel X γ T S w fr σ a) (hv' : v' = .slice (some ⟨g, 0, none⟩) (rows.length + 1) cap) {cur : Array Value}
    (hg : w'.heap[g]? = some (.cells cur e (0, 0))) (hlim : rows.length + 1 ≤ 281474976710656) (hcap : rows.length + 1 ≤ cap) (hcm : cap ≤ maxLen) (hcur : cur.size = cap * sz) (h1 : sized sz rows = true) (hZ : Z.length = sz) (hcs : cs.length = sz) (hus : RDL S w cs us)
    (r3 : w.grownBy w' (T k).ownBlock) (r4 : Kp S w w') (r5 : ∀ g, v'.ownBlock = some g → (T k).ownBlock = some g ∨ w.heap.size ≤ g) (r6 : ∀ b o, S b o → S' b o) (r7 : ∀ b o, S' b o → S b o ∨ (v'.ownBlock = some b ∧ b < w'.heap.size))
    (r9 : RD S' w' (.sl (rows ++ [Z])) v') (r10 : ∀ g, v'.ownBlock = some g → ∀ (i : Nat) (q : List D), rows[i]? = some q → ∀ (j : Nat) (x : D), q[j]? = some x → ∃ u, RD S w' x u ∧ w'.cell? ⟨g, i * sz + j, none⟩ = some u) (r11 : ∀ g, (T k).ownBlock = some g → ∀ o, S g o → o < rows.length * sz)
    {cE : Array Value} (hcE : cE = (cur.toList.take (rows.length * sz) ++ us ++ cur.toList.drop (rows.length * sz + us.length)).toArray) :
    (∃ xs, (w'.setRow g cE).ownsRow 0 e sz v' (rows ++ [cs]).length xs) ∧ w.grownBy (w'.setRow g cE) (T k).ownBlock ∧ Kp S w (w'.setRow g cE) ∧ (∀ b o, S' b o → S b o ∨ (v'.ownBlock = some b ∧ b < (w'.setRow g cE).heap.size)) ∧ RD S' (w'.setRow g cE) (.sl (rows ++ [cs])) v' := by
  have hob : v'.ownBlock = some g := by rw [hv']; rfl
  have hul : us.length = sz := hus.1.trans hcs
  have hle : (rows.length + 1) * sz ≤ cap * sz := Nat.mul_le_mul_right _ hcap
  have hmul : (rows.length + 1) * sz = rows.length * sz + sz := by rw [Nat.add_mul, Nat.one_mul]
  have hcl : cur.toList.length = cap * sz := by simpa using hcur
  have htl : (cur.toList.take (rows.length * sz)).length = rows.length * sz := by rw [List.length_take]; omega
  have hE : ∀ i, cE[i]? = (cur.toList.take (rows.length * sz) ++ us ++ cur.toList.drop (rows.length * sz + us.length))[i]? := fun i => by rw [hcE, List.getElem?_toArray]
  have hlow : ∀ i, i < rows.length * sz → cE[i]? = cur[i]? := fun i hi => by
    rw [hE, List.append_assoc, List.getElem?_append_left (by rw [htl]; exact hi), List.getElem?_take, if_pos hi]; simp
  have hmid : ∀ j, j < sz → cE[rows.length * sz + j]? = us[j]? := fun j hj => by
    rw [hE, List.append_assoc, List.getElem?_append_right (by rw [htl]; omega), htl, List.getElem?_append_left (by omega)]
    congr 1; omega
  have hsE : cE.size = cap * sz := by
    rw [hcE]
    simp only [List.size_toArray, List.length_append, List.length_drop, htl, hul, hcl]
    omega
  have hgW : (w'.setRow g cE).heap[g]? = some (.cells cE e (0, 0)) := setRow_heap w' g cur cE e (0, 0) hg
  have hSg : ∀ o, S g o → o < rows.length * sz := fun o hs => by
    rcases r5 g hob with h | h
    · exact r11 g h o hs
    · have := hr.st.lt g o hs; omega
  have hKp' : Kp S w' (w'.setRow g cE) := fun b o x hs hc => by
    by_cases hb : b = g
    · subst hb
      rw [cell_of_row _ _ _ _ _ _ hgW, hlow o (hSg o hs), ← cell_of_row _ _ _ _ _ _ hg]; exact hc
    · rw [cell_setRow_other w' g cE ⟨b, o, none⟩ hb]; exact hc
  have hKp : Kp S w (w'.setRow g cE) := r4.trans fun b o x hs hc => hKp' b o x hs hc
  have hl2 : (rows ++ [cs]).length = rows.length + 1 := by simp
  have hsz2 : sized sz (rows ++ [Z]) = true := by
    unfold sized at h1 ⊢
    rw [List.all_append, h1, Bool.true_and, List.all_cons, List.all_nil, Bool.and_true, hZ, Nat.beq_refl]
  refine ⟨⟨cE.toList.take ((rows.length + 1) * sz), ?_, .inr ⟨g, cap, cE, by rw [hl2]; exact hv', Nat.zero_le _, hgW, by rw [hl2]; exact hcap, hcm, hsE, by rw [hl2]⟩⟩, ⟨r3.os, r3.tape, r3.output, by simpa [World.setRow] using r3.size, fun b hb hne => ?_⟩, hKp, fun b o hs => ?_, ?_⟩
  · rw [hl2, List.length_take]; simp only [Array.length_toList, hsE]; omega
  · rw [setRow_other w' g b cE (fun e => ?_)]
    · exact r3.block b hb hne
    · subst e
      rcases r5 b hob with h | h
      · exact hne h.symm
      · omega
  · rcases r7 b o hs with h | h
    · exact .inl h
    · exact .inr ⟨h.1, by simpa [World.setRow] using h.2⟩
  · obtain ⟨A, c, vs, e0, hc, hnil, hval, hspot, hmem⟩ := r9.rows hsz2
    rw [hv'] at e0
    injection e0 with eA eL eC
    subst eA; subst eC
    have hZl : (rows ++ [Z]).length = rows.length + 1 := by simp
    have key : RD S' (w'.setRow g cE) (.sl (rows ++ [cs])) (.slice (some ⟨g, 0, none⟩) (rows ++ [cs]).length cap) := by
      refine .sl (rows ++ [cs]) _ cap sz (fun i j => ((w'.setRow g cE).cell? ⟨g, i * sz + j, none⟩).getD undef) (by omega) (by omega) (fun h => by cases h) (fun i q hq => ?_) (fun i q hq j x hx => ?_) (fun ad h _ => by cases h; rfl) fun ad h i hi j hj => ?_
      · by_cases hlt : i < rows.length
        · rw [List.getElem?_append_left hlt] at hq; exact zbN h1 hq
        · rw [List.getElem?_append_right (by omega)] at hq
          obtain rfl := List.mem_singleton.1 (List.mem_of_getElem? hq); exact hcs
      · by_cases hlt : i < rows.length
        · rw [List.getElem?_append_left hlt] at hq
          obtain ⟨u, hu1, hu2⟩ := r10 g hob i q hq j x hx
          have hj : j < sz := by rw [← zbN h1 hq]; exact (List.getElem?_eq_some_iff.1 hx).1
          have hij : i * sz + j < rows.length * sz := by
            have : (i + 1) * sz ≤ rows.length * sz := Nat.mul_le_mul_right _ hlt
            rw [Nat.add_mul] at this; omega
          have e1 : (w'.setRow g cE).cell? ⟨g, i * sz + j, none⟩ = some u := by
            rw [cell_of_row _ _ _ _ _ _ hgW, hlow _ hij, ← cell_of_row _ _ _ _ _ _ hg]; exact hu2
          simp only [e1, Option.getD_some]
          exact hu1.mono r6 hKp'
        · rw [List.getElem?_append_right (by omega)] at hq
          have hi0 : i = rows.length := by
            have := (List.getElem?_eq_some_iff.1 hq).1
            simp only [List.length_singleton] at this; omega
          obtain rfl := List.mem_singleton.1 (List.mem_of_getElem? hq)
          subst hi0
          obtain ⟨u, hu1, hu2⟩ := hus.2 j x hx
          have hj : j < sz := by rw [← hcs]; exact (List.getElem?_eq_some_iff.1 hx).1
          have e1 : (w'.setRow g cE).cell? ⟨g, rows.length * sz + j, none⟩ = some u := by
            rw [cell_of_row _ _ _ _ _ _ hgW, hmid j hj, hu1]
          simp only [e1, Option.getD_some]
          exact hu2.mono r6 hKp
      · cases h
        rw [hl2] at hi
        have h3 := (hmem _ rfl i (by rw [hZl]; exact hi) j hj).1
        refine ⟨h3, ?_⟩
        simp only [Nat.zero_add]
        have hin : i * sz + j < cE.size := by
          rw [hsE]
          have : (i + 1) * sz ≤ (rows.length + 1) * sz := Nat.mul_le_mul_right _ hi
          rw [Nat.add_mul i, Nat.one_mul] at this; omega
        rw [cell_of_row _ _ _ _ _ _ hgW, Array.getElem?_eq_getElem hin]; rfl
    rw [hl2] at key
    rw [hv']; exact key
end
end Go.Proofs.YtjhkehloipmjfaaGreat
