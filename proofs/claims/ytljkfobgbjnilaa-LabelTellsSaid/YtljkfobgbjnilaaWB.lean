/- The contracts of package label, told in abstract values. -/
import Derived.Test.YtljkfobgbjnilaaWS
import Derived.Test.YtljkfobgbjnilaaHX
namespace Go.Proofs.Ytljkfobgbjnilaa
open Go.RowKit
section
variable {S S' : Nat → Nat → Prop} {w w' : World}
theorem rd_v {x v : Value} (h : RD S w (.v x) v) : v = x := by cases h; rfl
theorem spot_of {w : World} {a : Addr} {v : Value} (h : w.cell? a = some v) : a.spot = none := by
  unfold World.cell? at h
  split at h
  · split at h
    · cases h
    · rename_i hs; simpa using hs
  · cases h
theorem rw_of_rd : ∀ (e : E) (cs : List Value), RDL S w (encE e) cs → RW w e cs := E.ind fun e ih cs h => by
  rw [encE_eq] at h
  obtain ⟨hl, hr⟩ := h
  have g : ∀ (j : Nat) (x : Value), [D.v (.int .i64 e.kind), .v (.string e.name), .v (.int .i64 e.val.kind), .v (.int .i64 e.val.n), .v (.float .f64 e.val.f), .v (.string e.val.s), .sl (e.kids.map encE)][j]? = some (.v x) → cs[j]? = some x := by
    intro j x hj
    obtain ⟨u, hu, hru⟩ := hr j _ hj
    rw [hu, rd_v hru]
  obtain ⟨u, hu, hru⟩ := hr 6 _ rfl
  generalize hrows : e.kids.map encE = rows at hru
  cases hru with
  | sl _ A c sz vs cap lim nil row val spot mem =>
    subst hrows
    rw [List.length_map] at hu cap lim
    have hsz : ∀ i, i < e.kids.length → sz = 7 := fun i hi => by
      rw [← row i (encE e.kids[i]) (by rw [List.getElem?_map, List.getElem?_eq_getElem hi]; rfl), encE_len]
    refine .mk e cs A c (fun i => (List.range 7).map (vs i)) hl (g 0 _ rfl) (g 1 _ rfl) (g 2 _ rfl) (g 3 _ rfl) (g 4 _ rfl) (g 5 _ rfl) hu cap lim (fun h => by simpa using nil h) (fun i q hq => ?_) (fun a ha h0 => ?_) fun a ha i hi j u hj => ?_
    · refine ih q (List.mem_of_getElem? hq) _ ⟨by rw [encE_len]; simp, fun j x hx => ?_⟩
      have hj : j < 7 := by have := (List.getElem?_eq_some_iff.1 hx).1; rwa [encE_len] at this
      exact ⟨vs i j, by rw [List.getElem?_map, List.getElem?_range hj]; rfl, val i (encE q) (by rw [List.getElem?_map, hq]; rfl) j x hx⟩
    · have := (mem a ha 0 (by simpa using h0) 0 (by rw [hsz 0 h0]; omega)).2
      have hlt := World.block_lt_of_cell? w ⟨a.block, _, none⟩ this
      exact hlt
    · have hj7 : j < 7 := by have := (List.getElem?_eq_some_iff.1 hj).1; simpa using this
      rw [List.getElem?_map, List.getElem?_range hj7] at hj
      injection hj with hj
      have hm := (mem a ha i (by simpa using hi) j (by rw [hsz i hi]; exact hj7)).2
      have hsp := spot a ha (by simp; omega)
      obtain ⟨b, off, sp⟩ := a
      simp only at hsp hm
      subst hsp
      rw [Addr.add_lit, ← hj, ← hm, hsz i hi]
theorem sw_of_rd {l : List ByteArray} {v : Value} (h : RD S w (.sl (l.map encS)) v) : ∃ A c, v = .slice A l.length c ∧ SW w l A c := by
  generalize hrows : l.map encS = rows at h
  cases h with
  | sl _ A c sz vs cap lim nil row val spot mem =>
    subst hrows
    rw [List.length_map] at cap lim
    have hsz : ∀ i, i < l.length → sz = 1 := fun i hi => by
      rw [← row i (encS l[i]) (by rw [List.getElem?_map, List.getElem?_eq_getElem hi]; rfl)]; rfl
    refine ⟨A, c, by rw [List.length_map], cap, lim, fun h => by simpa using nil h, fun a ha h0 => ?_, fun a ha i s hs => ?_⟩
    · have hlt := World.block_lt_of_cell? w ⟨a.block, _, none⟩ (mem a ha 0 (by simpa using h0) 0 (by rw [hsz 0 h0]; omega)).2
      exact hlt
    · have hi := (List.getElem?_eq_some_iff.1 hs).1
      have hm := (mem a ha i (by simpa using hi) 0 (by rw [hsz i hi]; omega)).2
      have hv := rd_v (val i (encS s) (by rw [List.getElem?_map, hs]; rfl) 0 _ rfl)
      have hsp := spot a ha (by simp; omega)
      obtain ⟨b, off, sp⟩ := a
      simp only at hsp hm
      subst hsp
      rw [Addr.add_lit, ← hv, ← hm, hsz i hi, Nat.mul_one, Nat.add_zero]
theorem rd_of_sl {Sb : Nat → Prop} {l : List ByteArray} {A : Option Addr} {c : Nat} (h : SL Sb w l A c) (hS : ∀ b o, Sb b → b < w.heap.size → S b o) : RD S w (.sl (l.map encS)) (.slice A l.length c) := by
  have e : l.length = (l.map encS).length := by simp
  rw [e]
  refine .sl (l.map encS) A c 1 (fun i _ => .string (l.getD i ⟨#[]⟩)) (by simpa using h.cap) (by simpa using h.big) (fun ha => by rw [h.nil ha]; rfl) (fun i q hq => ?_) (fun i q hq j x hx => ?_) (fun a ha h0 => ?_) fun a ha i hi j hj => ?_
  · rw [List.getElem?_map, Option.map_eq_some_iff] at hq
    obtain ⟨s, _, rfl⟩ := hq; rfl
  · rw [List.getElem?_map, Option.map_eq_some_iff] at hq
    obtain ⟨s, hs, rfl⟩ := hq
    cases j with
    | zero =>
      simp only [encS, List.getElem?_cons_zero, Option.some.injEq] at hx
      subst hx
      simp only [List.getD_eq_getElem?_getD, hs, Option.getD_some]
      exact .v _ rfl
    | succ j => simp [encS] at hx
  · have h1 := h.mem a ha 0 _ (List.getElem?_eq_getElem (by simpa using h0))
    have : a.add 0 = a := by unfold Addr.add; simp
    rw [this] at h1
    exact spot_of h1
  · have hi' : i < l.length := by simpa using hi
    obtain rfl : j = 0 := by omega
    have h0 := h.mem a ha 0 _ (List.getElem?_eq_getElem (by omega : 0 < l.length))
    have : a.add 0 = a := by unfold Addr.add; simp
    rw [this] at h0
    have hsp := spot_of h0
    have h1 := h.mem a ha i _ (List.getElem?_eq_getElem hi')
    have hlt := World.block_lt_of_cell? w _ h0
    have hok := h.ok a ha (by omega)
    obtain ⟨b, off, sp⟩ := a
    simp only at hsp hlt hok
    subst hsp
    rw [Addr.add_lit] at h1
    refine ⟨hS _ _ hok hlt, ?_⟩
    rw [Nat.mul_one, Nat.add_zero, h1]
    simp [List.getD_eq_getElem?_getD, List.getElem?_eq_getElem hi']
/-- a contract that ends in a bool -/
theorem callsV_bool {P : Program} {f : FuncId} {args : List VV} {b : Bool} (he : Enters P f) (h : ∀ S w vs, ArgsR S w args vs → Calls P f vs.toArray w (RBool b w)) : CallsV P f args (.val (vB b)) :=
  ⟨he, fun S w vs ha _ => (h S w vs ha).mono fun _ _ hr => ⟨.bool b, S, hr.1, hr.2, fun _ _ hs => hs, fun _ _ hs => .inl hs, fun _ _ => .one (.v _ rfl)⟩⟩
theorem args1 {x : VV} {vs : List Value} (h : ArgsR S w [x] vs) : ∃ v, vs = [v] ∧ PV S w x v := by
  obtain ⟨hl, hr⟩ := h
  match vs, hl with
  | [v], _ => exact ⟨v, rfl, hr 0 x v rfl rfl⟩
theorem args2 {x y : VV} {vs : List Value} (h : ArgsR S w [x, y] vs) : ∃ v u, vs = [v, u] ∧ PV S w x v ∧ PV S w y u := by
  obtain ⟨hl, hr⟩ := h
  match vs, hl with
  | [v, u], _ => exact ⟨v, u, rfl, hr 0 x v rfl rfl, hr 1 y u rfl rfl⟩
theorem pv_v {x v : Value} (h : PV S w (.one (.d (.v x))) v) : v = x := val_sound (h (fun _ => 0) (fun _ => undef))
theorem pv_sl {r : List (List D)} {v : Value} (h : PV S w (.one (.d (.sl r))) v) : RD S w (.sl r) v := by
  have := h (fun _ => 0) (fun _ => undef)
  cases this with | one h => exact h
theorem pv_dat {cs : List D} {v : Value} (h : PV S w (.dat cs) v) : ∃ us : List Value, v = .agg us.toArray ∧ RDL S w cs us := by
  have := h (fun _ => 0) (fun _ => undef)
  cases this with | dat h2 => exact ⟨_, rfl, h2⟩
end
theorem word_v (s : ByteArray) : CallsV Try.prog 17 [vS s] (.val (vB (word s))) :=
  callsV_bool (enters Try.func17 rfl rfl) fun S w vs h => by
    obtain ⟨v, rfl, h1⟩ := args1 h
    rw [pv_v h1]; exact word_calls s w
theorem right_v (e : E) : CallsV Try.prog 19 [.dat (encE e)] (.val (vB (labelRight e))) :=
  callsV_bool (enters Try.func19 rfl rfl) fun S w vs h => by
    obtain ⟨v, rfl, h1⟩ := args1 h
    obtain ⟨us, rfl, h2⟩ := pv_dat h1
    exact labelRight_calls (rw_of_rd e us h2) w (Below.refl _ _)
theorem has_v (l : List ByteArray) (e : E) : CallsV Try.prog 13 [vL (l.map encS), .dat (encE e)] (.val (vB (hasL l e))) :=
  callsV_bool (enters Try.func13 rfl rfl) fun S w vs h => by
    obtain ⟨v, u, rfl, h1, h2⟩ := args2 h
    obtain ⟨A, c, rfl, h3⟩ := sw_of_rd (pv_sl h1)
    obtain ⟨us, rfl, h4⟩ := pv_dat h2
    exact has_calls (rw_of_rd e us h4) h3 w (Below.refl _ _)
theorem nots_v (e : E) : CallsV Try.prog 28 [.dat (encE e)] (.val (vB (notsE e))) :=
  callsV_bool (enters Try.func28 rfl rfl) fun S w vs h => by
    obtain ⟨v, rfl, h1⟩ := args1 h
    obtain ⟨us, rfl, h2⟩ := pv_dat h1
    exact nots_calls (rw_of_rd e us h2) w (Below.refl _ _)
theorem shown_v : CallsV Try.prog 11 [] (.val (vB true)) :=
  callsV_bool (enters Try.func11 rfl rfl) fun S w vs h => by
    have : vs = [] := List.eq_nil_of_length_eq_zero h.1
    subst this; exact shown_calls w
theorem count_v (e : E) : CallsV Try.prog 12 [.dat (encE e)] (.val (vI (count e))) :=
  ⟨enters Try.func12 rfl rfl, fun S w vs h _ => by
    obtain ⟨v, rfl, h1⟩ := args1 h
    obtain ⟨us, rfl, h2⟩ := pv_dat h1
    exact (count_calls (rw_of_rd e us h2) w (Below.refl _ _)).mono fun e w' hr => ⟨_, S, hr.1, hr.2, fun _ _ hs => hs, fun _ _ hs => .inl hs, fun _ _ => .one (.v _ rfl)⟩⟩
end Go.Proofs.Ytljkfobgbjnilaa
