/- What memory says of expressions and patterns; laws of single operations over structs whose cells stay unopened. -/
import Derived.Test.YtjhkehloipmjfaaProg
import Derived.Test.YtjhkehloipmjfaaWE
import Derived.Lib.Hide
import Derived.Maps.AppendAt
import Derived.Deep.WholeRow
import Derived.Laws.Cover2
import Derived.Deep.RegionHeld3
import Derived.Deep.DeepCutAuto
import Derived.Deep.QuietTactic
import Derived.BigQuiet
import Derived.MapKept
import Derived.Test.YtjhkehloipmjfaaWS
namespace Go.Proofs.Ytjhkehloipmjfaa
open Go.RowKit
/-- Cells in a row from an address on. -/
def CellsAt (w : World) (a : Addr) (k : Nat) (cs : List Value) : Prop := ∀ j u, cs[j]? = some u → w.cell? (a.add (k + j)) = some u
/-- An expression's seven cells; what they lead to lies in blocks of S. -/
inductive RE (S : Nat → Prop) (w : World) : E → List Value → Prop
  | mk (e : E) (cs : List Value) (A : Option Addr) (c : Nat) (css : Nat → List Value) (len : cs.length = 7)
    (c0 : cs[0]? = some (.int .i64 e.kind)) (c1 : cs[1]? = some (.string e.name))
    (c2 : cs[2]? = some (.int .i64 e.val.kind)) (c3 : cs[3]? = some (.int .i64 e.val.n)) (c4 : cs[4]? = some (.float .f64 e.val.f)) (c5 : cs[5]? = some (.string e.val.s))
    (c6 : cs[6]? = some (.slice A e.kids.length c)) (cap : e.kids.length ≤ c) (big : e.kids.length ≤ 281474976710656) (nil : A = none → e.kids = [])
    (kid : ∀ i q, e.kids[i]? = some q → RE S w q (css i)) (ok : ∀ a, A = some a → 0 < e.kids.length → S a.block)
    (mem : ∀ a, A = some a → ∀ i, i < e.kids.length → CellsAt w a (i * 7) (css i)) : RE S w e cs
/-- A pattern's twenty cells. -/
inductive RP (S : Nat → Prop) (w : World) : Pt → List Value → Prop
  | mk (p : Pt) (cs : List Value) (A : Option Addr) (c : Nat) (css : Nat → List Value) (len : cs.length = 20)
    (c0 : cs[0]? = some (.int .i64 p.kind)) (c1 : cs[1]? = some (.string p.var)) (c2 : cs[2]? = some (.int .i64 p.dir))
    (hl : RE S w p.label ((cs.drop 3).take 7)) (hw : RE S w p.wher ((cs.drop 10).take 7))
    (c17 : cs[17]? = some (.int .i64 p.min)) (c18 : cs[18]? = some (.int .i64 p.max))
    (c19 : cs[19]? = some (.slice A p.kids.length c)) (cap : p.kids.length ≤ c) (big : p.kids.length ≤ 281474976710656) (nil : A = none → p.kids = [])
    (kid : ∀ i q, p.kids[i]? = some q → RP S w q (css i)) (ok : ∀ a, A = some a → 0 < p.kids.length → S a.block)
    (mem : ∀ a, A = some a → ∀ i, i < p.kids.length → CellsAt w a (i * 20) (css i)) : RP S w p cs
theorem add_block (a : Addr) (i : Nat) : (a.add i).block = a.block := by unfold Addr.add; split <;> rfl
theorem CellsAt.move {w w1 : World} {a : Addr} {k : Nat} {cs : List Value} (h : CellsAt w a k cs) (hm : ∀ b v, b.block = a.block → w.cell? b = some v → w1.cell? b = some v) : CellsAt w1 a k cs :=
  fun j u hj => hm _ _ (add_block _ _) (h j u hj)
theorem CellsAt.mono {w w1 : World} {a : Addr} {k : Nat} {cs : List Value} (h : CellsAt w a k cs) (hb : Below w.heap.size w w1) : CellsAt w1 a k cs :=
  h.move fun _ _ _ hc => (hb.cell (World.block_lt_of_cell? w _ hc)).trans hc
/-- All that S's blocks hold stands: so does what is said of the datum. -/
theorem RE.move {S S' : Nat → Prop} {w w1 : World} (hS : ∀ k, S k → S' k) (hm : ∀ b v, S b.block → w.cell? b = some v → w1.cell? b = some v) {e : E} {cs : List Value} (h : RE S w e cs) : RE S' w1 e cs := by
  induction h with
  | mk e cs A c css len c0 c1 c2 c3 c4 c5 c6 cap big nil kid ok mem ih => exact .mk e cs A c css len c0 c1 c2 c3 c4 c5 c6 cap big nil ih (fun a ha h0 => hS _ (ok a ha h0)) (fun a ha i hi => (mem a ha i hi).move fun b v hb => hm b v (hb ▸ ok a ha (Nat.lt_of_le_of_lt (Nat.zero_le _) hi)))
theorem RP.move {S S' : Nat → Prop} {w w1 : World} (hS : ∀ k, S k → S' k) (hm : ∀ b v, S b.block → w.cell? b = some v → w1.cell? b = some v) {p : Pt} {cs : List Value} (h : RP S w p cs) : RP S' w1 p cs := by
  induction h with
  | mk p cs A c css len c0 c1 c2 hl hw c17 c18 c19 cap big nil kid ok mem ih => exact .mk p cs A c css len c0 c1 c2 (hl.move hS hm) (hw.move hS hm) c17 c18 c19 cap big nil ih (fun a ha h0 => hS _ (ok a ha h0)) (fun a ha i hi => (mem a ha i hi).move fun b v hb => hm b v (hb ▸ ok a ha (Nat.lt_of_le_of_lt (Nat.zero_le _) hi)))
section
variable {S S' : Nat → Prop} {w w1 : World} {e : E} {p : Pt} {cs : List Value}
theorem RE.mono (h : RE S w e cs) (hb : Below w.heap.size w w1) : RE S w1 e cs := h.move (fun _ hk => hk) fun _ _ _ hc => (hb.cell (World.block_lt_of_cell? w _ hc)).trans hc
theorem RP.mono (h : RP S w p cs) (hb : Below w.heap.size w w1) : RP S w1 p cs := h.move (fun _ hk => hk) fun _ _ _ hc => (hb.cell (World.block_lt_of_cell? w _ hc)).trans hc
theorem RE.length (h : RE S w e cs) : cs.length = 7 := by cases h; assumption
theorem RP.length (h : RP S w p cs) : cs.length = 20 := by cases h; assumption
end
section
variable {P : Program} {ops : Array Oper} {rest : List Oper} {o : Oper} {a : Act} {w : World} {Q : Exit → Act → World → Prop}
end
theorem addr_add_add (a : Addr) (i j : Nat) : (a.add i).add j = a.add (i + j) := by
  unfold Addr.add; split <;> split <;> simp_all <;> omega
theorem CellsAt.at_ {w : World} {a : Addr} {k : Nat} {cs : List Value} (h : CellsAt w a k cs) : CellsAt w (a.add k) 0 cs :=
  fun j u hj => by rw [addr_add_add, Nat.zero_add]; exact h j u hj
/-- A row of expressions that is read. -/
structure LE (S : Nat → Prop) (w : World) (l : List E) (A : Option Addr) (c : Nat) (css : Nat → List Value) : Prop where
  cap : l.length ≤ c
  big : l.length ≤ 281474976710656
  nil : A = none → l = []
  kid : ∀ i q, l[i]? = some q → RE S w q (css i)
  ok : ∀ a, A = some a → 0 < l.length → S a.block
  mem : ∀ a, A = some a → ∀ i, i < l.length → CellsAt w a (i * 7) (css i)
/-- A row of patterns that is read. -/
structure LP (S : Nat → Prop) (w : World) (l : List Pt) (A : Option Addr) (c : Nat) (css : Nat → List Value) : Prop where
  cap : l.length ≤ c
  big : l.length ≤ 281474976710656
  nil : A = none → l = []
  kid : ∀ i q, l[i]? = some q → RP S w q (css i)
  ok : ∀ a, A = some a → 0 < l.length → S a.block
  mem : ∀ a, A = some a → ∀ i, i < l.length → CellsAt w a (i * 20) (css i)
theorem LE.mono {S : Nat → Prop} {w w1 : World} {l : List E} {A : Option Addr} {c : Nat} {css : Nat → List Value} (h : LE S w l A c css) (hb : Below w.heap.size w w1) : LE S w1 l A c css :=
  ⟨h.cap, h.big, h.nil, fun i q hq => (h.kid i q hq).mono hb, h.ok, fun a ha i hi => (h.mem a ha i hi).mono hb⟩
theorem LP.mono {S : Nat → Prop} {w w1 : World} {l : List Pt} {A : Option Addr} {c : Nat} {css : Nat → List Value} (h : LP S w l A c css) (hb : Below w.heap.size w w1) : LP S w1 l A c css :=
  ⟨h.cap, h.big, h.nil, fun i q hq => (h.kid i q hq).mono hb, h.ok, fun a ha i hi => (h.mem a ha i hi).mono hb⟩
/-- what is to be known of element k ahead of a round that reads it -/
theorem LE.at_ {S : Nat → Prop} {w : World} {l : List E} {A : Option Addr} {c : Nat} {css : Nat → List Value} (h : LE S w l A c css) {k : Nat} (hk : k < l.length) :
    ∃ q ad, l[k]? = some q ∧ A = some ad ∧ RE S w q (css k) ∧ CellsAt w (ad.add (k * 7)) 0 (css k) ∧ (css k).length = 7 := by
  have hq : l[k]? = some l[k] := List.getElem?_eq_getElem hk
  cases A with
  | none => have := h.nil rfl; subst this; simp at hk
  | some ad => exact ⟨_, ad, hq, rfl, h.kid k _ hq, (h.mem ad rfl k hk).at_, (h.kid k _ hq).length⟩
theorem LP.at_ {S : Nat → Prop} {w : World} {l : List Pt} {A : Option Addr} {c : Nat} {css : Nat → List Value} (h : LP S w l A c css) {k : Nat} (hk : k < l.length) :
    ∃ q ad, l[k]? = some q ∧ A = some ad ∧ RP S w q (css k) ∧ CellsAt w (ad.add (k * 20)) 0 (css k) ∧ (css k).length = 20 := by
  have hq : l[k]? = some l[k] := List.getElem?_eq_getElem hk
  cases A with
  | none => have := h.nil rfl; subst this; simp at hk
  | some ad => exact ⟨_, ad, hq, rfl, h.kid k _ hq, (h.mem ad rfl k hk).at_, (h.kid k _ hq).length⟩
/-- What an expression's own cells are. -/
structure FE (e : E) (cs : List Value) (A : Option Addr) (c : Nat) : Prop where
  len : cs.length = 7
  c0 : cs[0]? = some (.int .i64 e.kind)
  c1 : cs[1]? = some (.string e.name)
  c2 : cs[2]? = some (.int .i64 e.val.kind)
  c3 : cs[3]? = some (.int .i64 e.val.n)
  c4 : cs[4]? = some (.float .f64 e.val.f)
  c5 : cs[5]? = some (.string e.val.s)
  c6 : cs[6]? = some (.slice A e.kids.length c)
structure FP (p : Pt) (cs : List Value) (A : Option Addr) (c : Nat) : Prop where
  len : cs.length = 20
  c0 : cs[0]? = some (.int .i64 p.kind)
  c1 : cs[1]? = some (.string p.var)
  c2 : cs[2]? = some (.int .i64 p.dir)
  c17 : cs[17]? = some (.int .i64 p.min)
  c18 : cs[18]? = some (.int .i64 p.max)
  c19 : cs[19]? = some (.slice A p.kids.length c)
/-- An expression's cells, written out. -/
def cellsE (e : E) (A : Option Addr) (c : Nat) : List Value :=
  [.int .i64 e.kind, .string e.name, .int .i64 e.val.kind, .int .i64 e.val.n, .float .f64 e.val.f, .string e.val.s, .slice A e.kids.length c]
theorem FE.eq {e : E} {cs : List Value} {A : Option Addr} {c : Nat} (h : FE e cs A c) : cs = cellsE e A c := by
  obtain ⟨len, c0, c1, c2, c3, c4, c5, c6⟩ := h
  match cs, len with
  | [x0, x1, x2, x3, x4, x5, x6], _ =>
    simp only [List.getElem?_cons_zero, List.getElem?_cons_succ, Option.some.injEq] at c0 c1 c2 c3 c4 c5 c6
    rw [c0, c1, c2, c3, c4, c5, c6]; rfl
theorem RE.open_ {S : Nat → Prop} {w : World} {e : E} {cs : List Value} (h : RE S w e cs) : ∃ A c css, FE e cs A c ∧ LE S w e.kids A c css := by
  cases h with
  | mk _ _ A c css len c0 c1 c2 c3 c4 c5 c6 cap big nil kid ok mem => exact ⟨_, _, _, ⟨len, c0, c1, c2, c3, c4, c5, c6⟩, ⟨cap, big, nil, kid, ok, mem⟩⟩
theorem RP.open_ {S : Nat → Prop} {w : World} {p : Pt} {cs : List Value} (h : RP S w p cs) : ∃ A c css, FP p cs A c ∧ LP S w p.kids A c css ∧ RE S w p.label ((cs.drop 3).take 7) ∧ RE S w p.wher ((cs.drop 10).take 7) := by
  cases h with
  | mk _ _ A c css len c0 c1 c2 hl hw c17 c18 c19 cap big nil kid ok mem => exact ⟨_, _, _, ⟨len, c0, c1, c2, c17, c18, c19⟩, ⟨cap, big, nil, kid, ok, mem⟩, hl, hw⟩
/-! ### each cell is one -/
theorem one_of {cs : List Value} {n : Nat} (hl : cs.length = n) (h : ∀ j, j < n → ∃ u, cs[j]? = some u ∧ u.oneCell' = true) : cs.toArray.all (·.oneCell') = true := by
  simp only [List.all_toArray, List.all_eq_true]
  intro u hu
  obtain ⟨j, hj, rfl⟩ := List.mem_iff_getElem.1 hu
  obtain ⟨u, h1, h2⟩ := h j (by omega)
  rw [List.getElem?_eq_getElem hj] at h1
  injection h1 with h1
  rw [h1]; exact h2
theorem FE.cell {e : E} {cs : List Value} {A : Option Addr} {c : Nat} (h : FE e cs A c) : ∀ j, j < 7 → ∃ u, cs[j]? = some u ∧ u.oneCell' = true
  | 0, _ => ⟨_, h.c0, rfl⟩ | 1, _ => ⟨_, h.c1, rfl⟩ | 2, _ => ⟨_, h.c2, rfl⟩ | 3, _ => ⟨_, h.c3, rfl⟩ | 4, _ => ⟨_, h.c4, rfl⟩ | 5, _ => ⟨_, h.c5, rfl⟩ | 6, _ => ⟨_, h.c6, rfl⟩
theorem RE.one {S : Nat → Prop} {w : World} {e : E} {cs : List Value} (h : RE S w e cs) : cs.toArray.all (·.oneCell') = true := by
  obtain ⟨A, c, _, f, _⟩ := h.open_
  exact one_of f.len f.cell
theorem sub_cell {cs : List Value} {o n : Nat} {j : Nat} {u : Value} (hj : j < n) (h : ((cs.drop o).take n)[j]? = some u) : cs[o + j]? = some u := by
  rw [List.getElem?_take, if_pos hj, List.getElem?_drop] at h
  exact h
theorem RP.cell {S : Nat → Prop} {w : World} {p : Pt} {cs : List Value} (h : RP S w p cs) (j : Nat) (hj : j < 20) : ∃ u, cs[j]? = some u ∧ u.oneCell' = true := by
  obtain ⟨A, c, _, f, _, hl, hw⟩ := h.open_
  obtain ⟨_, _, _, fl, _⟩ := hl.open_
  obtain ⟨_, _, _, fw, _⟩ := hw.open_
  rcases Nat.lt_or_ge j 3 with h3 | h3
  · match j, h3 with
    | 0, _ => exact ⟨_, f.c0, rfl⟩
    | 1, _ => exact ⟨_, f.c1, rfl⟩
    | 2, _ => exact ⟨_, f.c2, rfl⟩
  · rcases Nat.lt_or_ge j 10 with h10 | h10
    · obtain ⟨u, hu, h1⟩ := fl.cell (j - 3) (by omega)
      have := sub_cell (by omega) hu
      rw [show 3 + (j - 3) = j by omega] at this
      exact ⟨u, this, h1⟩
    · rcases Nat.lt_or_ge j 17 with h17 | h17
      · obtain ⟨u, hu, h1⟩ := fw.cell (j - 10) (by omega)
        have := sub_cell (by omega) hu
        rw [show 10 + (j - 10) = j by omega] at this
        exact ⟨u, this, h1⟩
      · obtain rfl | rfl | rfl : j = 17 ∨ j = 18 ∨ j = 19 := by omega
        · exact ⟨_, f.c17, rfl⟩
        · exact ⟨_, f.c18, rfl⟩
        · exact ⟨_, f.c19, rfl⟩
theorem RP.one {S : Nat → Prop} {w : World} {p : Pt} {cs : List Value} (h : RP S w p cs) : cs.toArray.all (·.oneCell') = true := one_of h.length h.cell
section
variable {P : Program} {ops : Array Oper} {rest : List Oper} {o : Oper} {a : Act} {w : World} {Q : Exit → Act → World → Prop}
end
end Go.Proofs.Ytjhkehloipmjfaa
/- A region whose order is open, walked once, in the text's order: each operation yields one value in every world that meets S, or calls what yields one value and leaves S. -/
namespace Go.Proofs.Ytjhkehloipmjfaa
open Go.RowKit
section
variable {P : Program} {ops : Array Oper} {Q : Exit → Act → World → Prop} {S : World → Prop}
/-- who writes slot t -/
def wrOf (ops : Array Oper) (t : Tmp) : Option Nat := ops.toList.findIdx? (fun o => o.dst == some t)
theorem wrOf_dst {t : Tmp} {j : Nat} (h : wrOf ops t = some j) : ∃ o, ops[j]? = some o ∧ o.dst = some t := by
  unfold wrOf at h
  rw [List.findIdx?_eq_some_iff_getElem] at h
  obtain ⟨hj, h1, _⟩ := h
  exact ⟨ops[j]'(by simpa using hj), by rw [Array.getElem?_eq_getElem], by simpa using h1⟩
/-- The frame where L's operations have been carried out. -/
def FrameL (ops : Array Oper) (a0 : Act) (vs : Nat → Value) (L : Nat → Bool) (a : Act) : Prop :=
  a.defers = a0.defers ∧ a.tmps.size = a0.tmps.size ∧ ∀ t, a.tmps[t]? = match wrOf ops t with
    | some j => if L j = true then (if t < a0.tmps.size then some (vs j) else none) else a0.tmps[t]?
    | none => a0.tmps[t]?
theorem FrameL.put {a0 a : Act} {vs : Nat → Value} {L L' : Nat → Bool} (h : FrameL ops a0 vs L a) {i : Nat} {o : Oper} (hd : ∀ t, o.dst = some t → wrOf ops t = some i) (hL : ∀ j, L' j = true ↔ (j = i ∨ L j = true)) (hnd : o.dst = none → ∀ t, wrOf ops t ≠ some i) :
    FrameL ops a0 vs L' (a.put o.dst (vs i)) := by
  obtain ⟨h1, h2, h3⟩ := h
  cases hdst : o.dst with
  | none =>
    refine ⟨h1, h2, fun t => ?_⟩
    show a.tmps[t]? = _
    rw [h3 t]
    cases hw : wrOf ops t with
    | none => rfl
    | some j =>
      have hne : j ≠ i := fun e => hnd hdst t (by rw [hw, e])
      have : L j = true ↔ L' j = true := by rw [hL]; exact ⟨.inr, fun h => h.resolve_left hne⟩
      by_cases hl : L j = true
      · simp only [hl, this.1 hl]
      · simp only [hl, mt this.2 hl]
  | some d =>
    refine ⟨h1, by simpa [Act.put] using h2, fun t => ?_⟩
    show (a.tmps.setIfInBounds d (vs i))[t]? = _
    rw [Array.getElem?_setIfInBounds]
    by_cases hdt : d = t
    · subst hdt
      rw [if_pos rfl, hd d hdst]
      simp only [(hL i).2 (.inl rfl), if_true, h2]
    · rw [if_neg hdt, h3 t]
      cases hw : wrOf ops t with
      | none => rfl
      | some j =>
        have hne : j ≠ i := fun e => by
          obtain ⟨p, hp, hpd⟩ := wrOf_dst hw
          subst e
          obtain ⟨q, hq, hqd⟩ := wrOf_dst (hd d hdst)
          rw [hp] at hq
          injection hq with hq
          rw [hq, hqd] at hpd
          injection hpd with hpd
          exact hdt hpd
        have : L j = true ↔ L' j = true := by rw [hL]; exact ⟨.inr, fun h => h.resolve_left hne⟩
        by_cases hl : L j = true
        · simp only [hl, this.1 hl]
        · simp only [hl, mt this.2 hl]
theorem FrameL.eq {a0 a b : Act} {vs : Nat → Value} {L L' : Nat → Bool} (h : FrameL ops a0 vs L a) (k : FrameL ops a0 vs L' b) (hL : ∀ j o, ops[j]? = some o → L j = L' j) : a = b := by
  obtain ⟨h1, _, h3⟩ := h
  obtain ⟨k1, _, k3⟩ := k
  obtain ⟨ta, da⟩ := a
  obtain ⟨tb, db⟩ := b
  simp only at h1 h3 k1 k3
  have : ta = tb := Array.ext_getElem? fun t => by
    rw [h3 t, k3 t]
    cases hw : wrOf ops t with
    | none => rfl
    | some j =>
      obtain ⟨p, hp, _⟩ := wrOf_dst hw
      simp only [hL j p hp]
  rw [this, h1, k1]
end
end Go.Proofs.Ytjhkehloipmjfaa
/- The walks of package label's functions: Word, bare, kinds, term, Right; and slices.IndexFunc, ContainsFunc over expressions. -/
namespace Go.Proofs.Ytjhkehloipmjfaa
open Go.RowKit
section
variable {P : Program} {ops : Array Oper} {rest : List Oper} {o : Oper} {a : Act} {w : World} {Q : Exit → Act → World → Prop}
end
end Go.Proofs.Ytjhkehloipmjfaa
/- The walk of label.Right. -/
namespace Go.Proofs.Ytjhkehloipmjfaa
open Go.RowKit
section
variable {P : Program} {ops : Array Oper} {rest : List Oper} {o : Oper} {a : Act} {w : World} {Q : Exit → Act → World → Prop}
end
end Go.Proofs.Ytjhkehloipmjfaa
/- label.Right, told in abstract values. -/
namespace Go.Proofs.Ytjhkehloipmjfaa
open Go.RowKit
section
variable {S S' : Nat → Nat → Prop} {w w' : World}
theorem args1 {x : VV} {vs : List Value} (h : ArgsR S w [x] vs) : ∃ v, vs = [v] ∧ PV S w x v := by
  obtain ⟨hl, hr⟩ := h
  match vs, hl with
  | [v], _ => exact ⟨v, rfl, hr 0 x v rfl rfl⟩
theorem pv_v {x v : Value} (h : PV S w (.one (.d (.v x))) v) : v = x := val_sound (h (fun _ => 0) (fun _ => undef))
end
end Go.Proofs.Ytjhkehloipmjfaa
