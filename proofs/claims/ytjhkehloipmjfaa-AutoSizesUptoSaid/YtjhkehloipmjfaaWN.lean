/- label.Right, told in abstract values. -/
import Derived.Test.YtjhkehloipmjfaaWS
import Derived.Test.YtjhkehloipmjfaaB1
namespace Go.Proofs.Ytjhkehloipmjfaa
open Go.RowKit
abbrev RW (w : World) (e : E) (cs : List Value) : Prop := RE (fun k => k < w.heap.size) w e cs
section
variable {S S' : Nat → Nat → Prop} {w w' : World}
theorem rd_v {x v : Value} (h : RD S w (.v x) v) : v = x := by cases h; rfl
theorem rw_of_rd : ∀ (e : E) (cs : List Value), RDL S w (encE e) cs → RW w e cs := E.ind fun e ih cs h => by
  rw [encE_eq] at h
  obtain ⟨hl, hr⟩ := h
  have g : ∀ (j : Nat) (x : Value), [D.v (.int .i64 e.kind), .v (.string e.name), .v (.int .i64 e.val.kind), .v (.int .i64 e.val.n), .v (.float .f64 e.val.f), .v (.string e.val.s), .sl (e.kids.map encE)][j]? = some (.v x) → cs[j]? = some x := by
    intro j x hj
    obtain ⟨u, hu, hru⟩ := hr j _ hj
    rw [hu, rd_v hru]
  obtain ⟨u, hu, hru⟩ := hr 6 _ rfl
  generalize hrows : e.kids.map encE = rows at hru
  cases hru with
  | sl _ A c sz vs cap lim nil row val spot mem =>
    subst hrows
    rw [List.length_map] at hu cap lim
    have hsz : ∀ i, i < e.kids.length → sz = 7 := fun i hi => by
      rw [← row i (encE e.kids[i]) (by rw [List.getElem?_map, List.getElem?_eq_getElem hi]; rfl), encE_len]
    refine .mk e cs A c (fun i => (List.range 7).map (vs i)) hl (g 0 _ rfl) (g 1 _ rfl) (g 2 _ rfl) (g 3 _ rfl) (g 4 _ rfl) (g 5 _ rfl) hu cap lim (fun h => by simpa using nil h) (fun i q hq => ?_) (fun a ha h0 => ?_) fun a ha i hi j u hj => ?_
    · refine ih q (List.mem_of_getElem? hq) _ ⟨by rw [encE_len]; simp, fun j x hx => ?_⟩
      have hj : j < 7 := by have := (List.getElem?_eq_some_iff.1 hx).1; rwa [encE_len] at this
      exact ⟨vs i j, by rw [List.getElem?_map, List.getElem?_range hj]; rfl, val i (encE q) (by rw [List.getElem?_map, hq]; rfl) j x hx⟩
    · have := (mem a ha 0 (by simpa using h0) 0 (by rw [hsz 0 h0]; omega)).2
      have hlt := World.block_lt_of_cell? w ⟨a.block, _, none⟩ this
      exact hlt
    · have hj7 : j < 7 := by have := (List.getElem?_eq_some_iff.1 hj).1; simpa using this
      rw [List.getElem?_map, List.getElem?_range hj7] at hj
      injection hj with hj
      have hm := (mem a ha i (by simpa using hi) j (by rw [hsz i hi]; exact hj7)).2
      have hsp := spot a ha (by simp; omega)
      obtain ⟨b, off, sp⟩ := a
      simp only at hsp hm
      subst hsp
      rw [Addr.add_lit, ← hj, ← hm, hsz i hi]
/-- a contract that ends in a bool -/
theorem callsV_bool {P : Program} {f : FuncId} {args : List VV} {b : Bool} (he : Enters P f) (h : ∀ S w vs, ArgsR S w args vs → Calls P f vs.toArray w (RBool b w)) : CallsV P f args (.val (vB b)) :=
  ⟨he, fun S w vs ha _ => (h S w vs ha).mono fun _ _ hr => ⟨.bool b, S, hr.1, hr.2, fun _ _ hs => hs, fun _ _ hs => .inl hs, fun _ _ => .one (.v _ rfl)⟩⟩
theorem args1 {x : VV} {vs : List Value} (h : ArgsR S w [x] vs) : ∃ v, vs = [v] ∧ PV S w x v := by
  obtain ⟨hl, hr⟩ := h
  match vs, hl with
  | [v], _ => exact ⟨v, rfl, hr 0 x v rfl rfl⟩
theorem pv_v {x v : Value} (h : PV S w (.one (.d (.v x))) v) : v = x := val_sound (h (fun _ => 0) (fun _ => undef))
theorem pv_dat {cs : List D} {v : Value} (h : PV S w (.dat cs) v) : ∃ us : List Value, v = .agg us.toArray ∧ RDL S w cs us := by
  have := h (fun _ => 0) (fun _ => undef)
  cases this with | dat h2 => exact ⟨_, rfl, h2⟩
end
theorem right_v (e : E) : CallsV Try.prog 103 [.dat (encE e)] (.val (vB (labelRight e))) :=
  callsV_bool (enters Try.func103 rfl rfl) fun S w vs h => by
    obtain ⟨v, rfl, h1⟩ := args1 h
    obtain ⟨us, rfl, h2⟩ := pv_dat h1
    exact labelRight_calls (rw_of_rd e us h2) w (Below.refl _ _)
end Go.Proofs.Ytjhkehloipmjfaa
