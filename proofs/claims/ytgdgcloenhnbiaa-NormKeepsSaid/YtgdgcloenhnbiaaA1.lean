/- What memory says of expressions and patterns; laws of single operations over structs whose cells stay unopened. -/
import Derived.Test.YtgdgcloenhnbiaaProg
import Derived.Test.YtgdgcloenhnbiaaA0
import Derived.Lib.Hide
import Derived.Maps.AppendAt
import Derived.Deep.WholeRow
import Derived.Laws.Cover2
import Derived.Deep.RegionHeld3
import Derived.Deep.DeepCutAuto
import Derived.Deep.QuietTactic
import Derived.BigQuiet
namespace Go.Proofs.Ytgdgcloenhnbiaa
open Go.RowKit

/-- Cells in a row from an address on. -/
def CellsAt (w : World) (a : Addr) (k : Nat) (cs : List Value) : Prop := ∀ j u, cs[j]? = some u → w.cell? (a.add (k + j)) = some u

def valCells (v : Val) : List Value := [.int .i64 v.kind, .int .i64 v.n, .float .f64 v.f, .string v.s]

/-- An expression's seven cells; what they lead to lies in blocks of S. -/
inductive RE (S : Nat → Prop) (w : World) : E → List Value → Prop
  | mk (e : E) (cs : List Value) (A : Option Addr) (c : Nat) (css : Nat → List Value) (len : cs.length = 7)
    (c0 : cs[0]? = some (.int .i64 e.kind)) (c1 : cs[1]? = some (.string e.name))
    (c2 : cs[2]? = some (.int .i64 e.val.kind)) (c3 : cs[3]? = some (.int .i64 e.val.n)) (c4 : cs[4]? = some (.float .f64 e.val.f)) (c5 : cs[5]? = some (.string e.val.s))
    (c6 : cs[6]? = some (.slice A e.kids.length c)) (cap : e.kids.length ≤ c) (big : e.kids.length ≤ 281474976710656) (nil : A = none → e.kids = [])
    (kid : ∀ i q, e.kids[i]? = some q → RE S w q (css i)) (ok : ∀ a, A = some a → 0 < e.kids.length → S a.block)
    (mem : ∀ a, A = some a → ∀ i, i < e.kids.length → CellsAt w a (i * 7) (css i)) : RE S w e cs

/-- A pattern's twenty cells. -/
inductive RP (S : Nat → Prop) (w : World) : Pt → List Value → Prop
  | mk (p : Pt) (cs : List Value) (A : Option Addr) (c : Nat) (css : Nat → List Value) (len : cs.length = 20)
    (c0 : cs[0]? = some (.int .i64 p.kind)) (c1 : cs[1]? = some (.string p.var)) (c2 : cs[2]? = some (.int .i64 p.dir))
    (hl : RE S w p.label ((cs.drop 3).take 7)) (hw : RE S w p.wher ((cs.drop 10).take 7))
    (c17 : cs[17]? = some (.int .i64 p.min)) (c18 : cs[18]? = some (.int .i64 p.max))
    (c19 : cs[19]? = some (.slice A p.kids.length c)) (cap : p.kids.length ≤ c) (big : p.kids.length ≤ 281474976710656) (nil : A = none → p.kids = [])
    (kid : ∀ i q, p.kids[i]? = some q → RP S w q (css i)) (ok : ∀ a, A = some a → 0 < p.kids.length → S a.block)
    (mem : ∀ a, A = some a → ∀ i, i < p.kids.length → CellsAt w a (i * 20) (css i)) : RP S w p cs

theorem add_block (a : Addr) (i : Nat) : (a.add i).block = a.block := by unfold Addr.add; split <;> rfl
theorem CellsAt.move {w w1 : World} {a : Addr} {k : Nat} {cs : List Value} (h : CellsAt w a k cs) (hm : ∀ b v, b.block = a.block → w.cell? b = some v → w1.cell? b = some v) : CellsAt w1 a k cs :=
  fun j u hj => hm _ _ (add_block _ _) (h j u hj)
theorem CellsAt.mono {w w1 : World} {a : Addr} {k : Nat} {cs : List Value} (h : CellsAt w a k cs) (hb : Below w.heap.size w w1) : CellsAt w1 a k cs :=
  h.move fun _ _ _ hc => (hb.cell (World.block_lt_of_cell? w _ hc)).trans hc
/-- All that S's blocks hold stands: so does what is said of the datum. -/
theorem RE.move {S S' : Nat → Prop} {w w1 : World} (hS : ∀ k, S k → S' k) (hm : ∀ b v, S b.block → w.cell? b = some v → w1.cell? b = some v) {e : E} {cs : List Value} (h : RE S w e cs) : RE S' w1 e cs := by
  induction h with
  | mk e cs A c css len c0 c1 c2 c3 c4 c5 c6 cap big nil kid ok mem ih => exact .mk e cs A c css len c0 c1 c2 c3 c4 c5 c6 cap big nil ih (fun a ha h0 => hS _ (ok a ha h0)) (fun a ha i hi => (mem a ha i hi).move fun b v hb => hm b v (hb ▸ ok a ha (Nat.lt_of_le_of_lt (Nat.zero_le _) hi)))
theorem RP.move {S S' : Nat → Prop} {w w1 : World} (hS : ∀ k, S k → S' k) (hm : ∀ b v, S b.block → w.cell? b = some v → w1.cell? b = some v) {p : Pt} {cs : List Value} (h : RP S w p cs) : RP S' w1 p cs := by
  induction h with
  | mk p cs A c css len c0 c1 c2 hl hw c17 c18 c19 cap big nil kid ok mem ih => exact .mk p cs A c css len c0 c1 c2 (hl.move hS hm) (hw.move hS hm) c17 c18 c19 cap big nil ih (fun a ha h0 => hS _ (ok a ha h0)) (fun a ha i hi => (mem a ha i hi).move fun b v hb => hm b v (hb ▸ ok a ha (Nat.lt_of_le_of_lt (Nat.zero_le _) hi)))
section
variable {S S' : Nat → Prop} {w w1 : World} {e : E} {p : Pt} {cs : List Value}
theorem RE.mono (h : RE S w e cs) (hb : Below w.heap.size w w1) : RE S w1 e cs := h.move (fun _ hk => hk) fun _ _ _ hc => (hb.cell (World.block_lt_of_cell? w _ hc)).trans hc
theorem RP.mono (h : RP S w p cs) (hb : Below w.heap.size w w1) : RP S w1 p cs := h.move (fun _ hk => hk) fun _ _ _ hc => (hb.cell (World.block_lt_of_cell? w _ hc)).trans hc
theorem RE.length (h : RE S w e cs) : cs.length = 7 := by cases h; assumption
theorem RP.length (h : RP S w p cs) : cs.length = 20 := by cases h; assumption
end

section
variable {P : Program} {ops : Array Oper} {rest : List Oper} {o : Oper} {a : Act} {w : World} {Q : Exit → Act → World → Prop}
/-- A struct is loaded, its cells unopened. -/
theorem run_load_cells (ty : TypeId) (ad : Addr) (cs : List Value) (hc : CellsAt w ad 0 cs) (d : TypeDesc) (hu : P.underlying ty = some d) (hd : (match d with | .struct _ | .array _ _ => true | _ => false) = true)
    (hi : (P.info? ty).map (·.size) = some cs.length) : (loadVar ty ad).run P w = .ok (.agg cs.toArray) w := by
  have hl : (loadCells ad cs.length).run P w = .ok cs.toArray w := run_loadCells_list (P := P) w ad cs (fun j v hv => by have := hc j v hv; rwa [Nat.zero_add] at this)
  cases hq : P.info? ty with
  | none => simp [hq] at hi
  | some i =>
    have hs : i.size = cs.length := by simpa [hq] using hi
    have hagg : (isAgg ty).run P w = .ok true w := by
      unfold isAgg
      rw [Sem.run_bind, run_underlying hu w]
      cases d <;> simp_all
    simp [loadVar, Sem.run_bind, hagg, sizeOf, typeInfo, hq, hs, hl]
theorem load_cells (hgd : o.guard = none) (ty : TypeId) (x : Operand) (ho : o.op = .load ty x) (ad : Addr) (hx : a.eval x = .pointer (some ad)) (cs : List Value) (hc : CellsAt w ad 0 cs) (d : TypeDesc) (hu : P.underlying ty = some d)
    (hd : (match d with | .struct _ | .array _ _ => true | _ => false) = true) (n : Nat) (hi : (P.info? ty).map (·.size) = some n) (hn : cs.length = n) (h : wpList P ops Q rest (a.put o.dst (.agg cs.toArray)) w) : wpList P ops Q (o :: rest) a w :=
  wpList_plain hgd fun K hK => by
    unfold Oper.wp execOp
    simp only [ho, hx, Instr.loadAt, Instr.sureAddr, Sem.run_bind, Sem.run_pure, Result.andThen_ok, run_load_cells ty ad cs hc d hu hd (hn ▸ hi)]
    exact hK _ _ h
end
theorem addr_add_add (a : Addr) (i j : Nat) : (a.add i).add j = a.add (i + j) := by
  unfold Addr.add; split <;> split <;> simp_all <;> omega
theorem CellsAt.at_ {w : World} {a : Addr} {k : Nat} {cs : List Value} (h : CellsAt w a k cs) : CellsAt w (a.add k) 0 cs :=
  fun j u hj => by rw [addr_add_add, Nat.zero_add]; exact h j u hj

/-- A row of expressions that is read. -/
structure LE (S : Nat → Prop) (w : World) (l : List E) (A : Option Addr) (c : Nat) (css : Nat → List Value) : Prop where
  cap : l.length ≤ c
  big : l.length ≤ 281474976710656
  nil : A = none → l = []
  kid : ∀ i q, l[i]? = some q → RE S w q (css i)
  ok : ∀ a, A = some a → 0 < l.length → S a.block
  mem : ∀ a, A = some a → ∀ i, i < l.length → CellsAt w a (i * 7) (css i)
/-- A row of patterns that is read. -/
structure LP (S : Nat → Prop) (w : World) (l : List Pt) (A : Option Addr) (c : Nat) (css : Nat → List Value) : Prop where
  cap : l.length ≤ c
  big : l.length ≤ 281474976710656
  nil : A = none → l = []
  kid : ∀ i q, l[i]? = some q → RP S w q (css i)
  ok : ∀ a, A = some a → 0 < l.length → S a.block
  mem : ∀ a, A = some a → ∀ i, i < l.length → CellsAt w a (i * 20) (css i)
theorem LE.mono {S : Nat → Prop} {w w1 : World} {l : List E} {A : Option Addr} {c : Nat} {css : Nat → List Value} (h : LE S w l A c css) (hb : Below w.heap.size w w1) : LE S w1 l A c css :=
  ⟨h.cap, h.big, h.nil, fun i q hq => (h.kid i q hq).mono hb, h.ok, fun a ha i hi => (h.mem a ha i hi).mono hb⟩
theorem LP.mono {S : Nat → Prop} {w w1 : World} {l : List Pt} {A : Option Addr} {c : Nat} {css : Nat → List Value} (h : LP S w l A c css) (hb : Below w.heap.size w w1) : LP S w1 l A c css :=
  ⟨h.cap, h.big, h.nil, fun i q hq => (h.kid i q hq).mono hb, h.ok, fun a ha i hi => (h.mem a ha i hi).mono hb⟩
/-- what is to be known of element k ahead of a round that reads it -/
theorem LE.at_ {S : Nat → Prop} {w : World} {l : List E} {A : Option Addr} {c : Nat} {css : Nat → List Value} (h : LE S w l A c css) {k : Nat} (hk : k < l.length) :
    ∃ q ad, l[k]? = some q ∧ A = some ad ∧ RE S w q (css k) ∧ CellsAt w (ad.add (k * 7)) 0 (css k) ∧ (css k).length = 7 := by
  have hq : l[k]? = some l[k] := List.getElem?_eq_getElem hk
  cases A with
  | none => have := h.nil rfl; subst this; simp at hk
  | some ad => exact ⟨_, ad, hq, rfl, h.kid k _ hq, (h.mem ad rfl k hk).at_, (h.kid k _ hq).length⟩
theorem LP.at_ {S : Nat → Prop} {w : World} {l : List Pt} {A : Option Addr} {c : Nat} {css : Nat → List Value} (h : LP S w l A c css) {k : Nat} (hk : k < l.length) :
    ∃ q ad, l[k]? = some q ∧ A = some ad ∧ RP S w q (css k) ∧ CellsAt w (ad.add (k * 20)) 0 (css k) ∧ (css k).length = 20 := by
  have hq : l[k]? = some l[k] := List.getElem?_eq_getElem hk
  cases A with
  | none => have := h.nil rfl; subst this; simp at hk
  | some ad => exact ⟨_, ad, hq, rfl, h.kid k _ hq, (h.mem ad rfl k hk).at_, (h.kid k _ hq).length⟩
/-- What an expression's own cells are. -/
structure FE (e : E) (cs : List Value) (A : Option Addr) (c : Nat) : Prop where
  len : cs.length = 7
  c0 : cs[0]? = some (.int .i64 e.kind)
  c1 : cs[1]? = some (.string e.name)
  c2 : cs[2]? = some (.int .i64 e.val.kind)
  c3 : cs[3]? = some (.int .i64 e.val.n)
  c4 : cs[4]? = some (.float .f64 e.val.f)
  c5 : cs[5]? = some (.string e.val.s)
  c6 : cs[6]? = some (.slice A e.kids.length c)
structure FP (p : Pt) (cs : List Value) (A : Option Addr) (c : Nat) : Prop where
  len : cs.length = 20
  c0 : cs[0]? = some (.int .i64 p.kind)
  c1 : cs[1]? = some (.string p.var)
  c2 : cs[2]? = some (.int .i64 p.dir)
  c17 : cs[17]? = some (.int .i64 p.min)
  c18 : cs[18]? = some (.int .i64 p.max)
  c19 : cs[19]? = some (.slice A p.kids.length c)
/-- An expression's cells, written out. -/
def cellsE (e : E) (A : Option Addr) (c : Nat) : List Value :=
  [.int .i64 e.kind, .string e.name, .int .i64 e.val.kind, .int .i64 e.val.n, .float .f64 e.val.f, .string e.val.s, .slice A e.kids.length c]
theorem FE.eq {e : E} {cs : List Value} {A : Option Addr} {c : Nat} (h : FE e cs A c) : cs = cellsE e A c := by
  obtain ⟨len, c0, c1, c2, c3, c4, c5, c6⟩ := h
  match cs, len with
  | [x0, x1, x2, x3, x4, x5, x6], _ =>
    simp only [List.getElem?_cons_zero, List.getElem?_cons_succ, Option.some.injEq] at c0 c1 c2 c3 c4 c5 c6
    rw [c0, c1, c2, c3, c4, c5, c6]; rfl
theorem FE.mk_ (e : E) (A : Option Addr) (c : Nat) : FE e (cellsE e A c) A c := ⟨rfl, rfl, rfl, rfl, rfl, rfl, rfl, rfl⟩
theorem RE.open_ {S : Nat → Prop} {w : World} {e : E} {cs : List Value} (h : RE S w e cs) : ∃ A c css, FE e cs A c ∧ LE S w e.kids A c css := by
  cases h with
  | mk _ _ A c css len c0 c1 c2 c3 c4 c5 c6 cap big nil kid ok mem => exact ⟨_, _, _, ⟨len, c0, c1, c2, c3, c4, c5, c6⟩, ⟨cap, big, nil, kid, ok, mem⟩⟩
theorem RP.open_ {S : Nat → Prop} {w : World} {p : Pt} {cs : List Value} (h : RP S w p cs) : ∃ A c css, FP p cs A c ∧ LP S w p.kids A c css ∧ RE S w p.label ((cs.drop 3).take 7) ∧ RE S w p.wher ((cs.drop 10).take 7) := by
  cases h with
  | mk _ _ A c css len c0 c1 c2 hl hw c17 c18 c19 cap big nil kid ok mem => exact ⟨_, _, _, ⟨len, c0, c1, c2, c17, c18, c19⟩, ⟨cap, big, nil, kid, ok, mem⟩, hl, hw⟩

/-! ### each cell is one -/
theorem one_of {cs : List Value} {n : Nat} (hl : cs.length = n) (h : ∀ j, j < n → ∃ u, cs[j]? = some u ∧ u.oneCell' = true) : cs.toArray.all (·.oneCell') = true := by
  simp only [List.all_toArray, List.all_eq_true]
  intro u hu
  obtain ⟨j, hj, rfl⟩ := List.mem_iff_getElem.1 hu
  obtain ⟨u, h1, h2⟩ := h j (by omega)
  rw [List.getElem?_eq_getElem hj] at h1
  injection h1 with h1
  rw [h1]; exact h2
theorem FE.cell {e : E} {cs : List Value} {A : Option Addr} {c : Nat} (h : FE e cs A c) : ∀ j, j < 7 → ∃ u, cs[j]? = some u ∧ u.oneCell' = true
  | 0, _ => ⟨_, h.c0, rfl⟩ | 1, _ => ⟨_, h.c1, rfl⟩ | 2, _ => ⟨_, h.c2, rfl⟩ | 3, _ => ⟨_, h.c3, rfl⟩ | 4, _ => ⟨_, h.c4, rfl⟩ | 5, _ => ⟨_, h.c5, rfl⟩ | 6, _ => ⟨_, h.c6, rfl⟩
theorem RE.one {S : Nat → Prop} {w : World} {e : E} {cs : List Value} (h : RE S w e cs) : cs.toArray.all (·.oneCell') = true := by
  obtain ⟨A, c, _, f, _⟩ := h.open_
  exact one_of f.len f.cell
theorem valCells_one (v : Val) : (valCells v).toArray.all (·.oneCell') = true := one_of (n := 4) rfl fun
  | 0, _ => ⟨_, rfl, rfl⟩ | 1, _ => ⟨_, rfl, rfl⟩ | 2, _ => ⟨_, rfl, rfl⟩ | 3, _ => ⟨_, rfl, rfl⟩
theorem sub_cell {cs : List Value} {o n : Nat} {j : Nat} {u : Value} (hj : j < n) (h : ((cs.drop o).take n)[j]? = some u) : cs[o + j]? = some u := by
  rw [List.getElem?_take, if_pos hj, List.getElem?_drop] at h
  exact h
theorem RP.cell {S : Nat → Prop} {w : World} {p : Pt} {cs : List Value} (h : RP S w p cs) (j : Nat) (hj : j < 20) : ∃ u, cs[j]? = some u ∧ u.oneCell' = true := by
  obtain ⟨A, c, _, f, _, hl, hw⟩ := h.open_
  obtain ⟨_, _, _, fl, _⟩ := hl.open_
  obtain ⟨_, _, _, fw, _⟩ := hw.open_
  rcases Nat.lt_or_ge j 3 with h3 | h3
  · match j, h3 with
    | 0, _ => exact ⟨_, f.c0, rfl⟩
    | 1, _ => exact ⟨_, f.c1, rfl⟩
    | 2, _ => exact ⟨_, f.c2, rfl⟩
  · rcases Nat.lt_or_ge j 10 with h10 | h10
    · obtain ⟨u, hu, h1⟩ := fl.cell (j - 3) (by omega)
      have := sub_cell (by omega) hu
      rw [show 3 + (j - 3) = j by omega] at this
      exact ⟨u, this, h1⟩
    · rcases Nat.lt_or_ge j 17 with h17 | h17
      · obtain ⟨u, hu, h1⟩ := fw.cell (j - 10) (by omega)
        have := sub_cell (by omega) hu
        rw [show 10 + (j - 10) = j by omega] at this
        exact ⟨u, this, h1⟩
      · obtain rfl | rfl | rfl : j = 17 ∨ j = 18 ∨ j = 19 := by omega
        · exact ⟨_, f.c17, rfl⟩
        · exact ⟨_, f.c18, rfl⟩
        · exact ⟨_, f.c19, rfl⟩
theorem RP.one {S : Nat → Prop} {w : World} {p : Pt} {cs : List Value} (h : RP S w p cs) : cs.toArray.all (·.oneCell') = true := one_of h.length h.cell

section
variable {P : Program} {ops : Array Oper} {rest : List Oper} {o : Oper} {a : Act} {w : World} {Q : Exit → Act → World → Prop}
/-- A struct is stored, its cells unopened, into the block that was made last. -/
theorem wp_store_new {K : Act → World → Prop} (ty : TypeId) (p x : Operand) (ho : o.op = .store ty p x) (hd : o.dst = none) (W : World) (old : Array Value) (g : Nat) (hW : W.heap.size = g) (cs : List Value) (hp : a.eval p = .pointer (some ⟨g, 0, none⟩)) (hx : a.eval x = .agg cs.toArray)
    (n : Nat) (hi : (P.info? ty).map (·.size) = some n) (hn : cs.length = n) (hold : old.size = n) (h1 : cs.toArray.all (·.oneCell') = true) (h : K a (W.alloc (.cells cs.toArray ty))) : o.wp P a (W.alloc (.cells old ty)) K Q := by
  subst hW
  unfold Oper.wp execOp
  have hs : cs.toArray.size = cs.length := by simp
  simp only [ho, hp, hx, Sem.run_bind, run_storeAt_new (P := P) W ty old cs.toArray (by rw [hs, hn]; exact hi) (by rw [hs, hn]; exact hold) h1]
  rw [show a = a.put o.dst undef by rw [hd]; rfl] at h
  exact h
theorem store_new (hgd : o.guard = none) (ty : TypeId) (p x : Operand) (ho : o.op = .store ty p x) (hd : o.dst = none) (W : World) (old : Array Value) (g : Nat) (hW : W.heap.size = g) (cs : List Value) (hp : a.eval p = .pointer (some ⟨g, 0, none⟩)) (hx : a.eval x = .agg cs.toArray)
    (n : Nat) (hi : (P.info? ty).map (·.size) = some n) (hn : cs.length = n) (hold : old.size = n) (h1 : cs.toArray.all (·.oneCell') = true) (h : wpList P ops Q rest a (W.alloc (.cells cs.toArray ty))) : wpList P ops Q (o :: rest) a (W.alloc (.cells old ty)) :=
  wpList_plain hgd fun _ hK => wp_store_new ty p x ho hd W old g hW cs hp hx n hi hn hold h1 (hK _ _ h)
theorem step_store_new {K : Act → World → Prop} {E : Prop} (hgd : o.guard = none) (ty : TypeId) (p x : Operand) (ho : o.op = .store ty p x) (hd : o.dst = none) (W : World) (old : Array Value) (g : Nat) (hW : W.heap.size = g) (cs : List Value) (hp : a.eval p = .pointer (some ⟨g, 0, none⟩)) (hx : a.eval x = .agg cs.toArray)
    (n : Nat) (hi : (P.info? ty).map (·.size) = some n) (hn : cs.length = n) (hold : old.size = n) (h1 : cs.toArray.all (·.oneCell') = true) (h : K (a.put o.dst undef) (W.alloc (.cells cs.toArray ty))) : if Region.wanted o (yielded ops a.tmps) = true then Oper.wp P o a (W.alloc (.cells old ty)) K Q else E := by
  rw [if_pos (by simp [Region.wanted, hgd])]
  exact wp_store_new ty p x ho hd W old g hW cs hp hx n hi hn hold h1 (by rw [hd] at h; exact h)
theorem step_store_drew {K : Act → World → Prop} {E : Prop} (hgd : o.guard = none) (ty : TypeId) (p x : Operand) (ho : o.op = .store ty p x) (hd : o.dst = none) (W : World) (old : Array Value) (g : Nat) (hW : W.heap.size = g) (cs : List Value) (hp : a.eval p = .pointer (some ⟨g, 0, none⟩)) (hx : a.eval x = .agg cs.toArray)
    (n : Nat) (hi : (P.info? ty).map (·.size) = some n) (hn : cs.length = n) (hold : old.size = n) (h1 : cs.toArray.all (·.oneCell') = true) (h : K (a.put o.dst undef) (W.alloc (.cells cs.toArray ty)).drew) : if Region.wanted o (yielded ops a.tmps) = true then Oper.wp P o a (W.alloc (.cells old ty)).drew K Q else E :=
  step_store_new (W := W.drew) hgd ty p x ho hd old g hW cs hp hx n hi hn hold h1 h
/-- the same as a region's walk leaves it, half run -/
theorem run_cells_drew (W : World) (ty : TypeId) (old : Array Value) (g : Nat) (hW : W.heap.size = g) (cs : List Value) (n : Nat) (hi : (P.info? ty).map (·.size) = some n) (hn : cs.length = n) (hold : old.size = n) (h1 : cs.toArray.all (·.oneCell') = true) :
    (storeCells ⟨g, 0, none⟩ cs 0).run P (W.alloc (.cells old ty)).drew = .ok () (W.alloc (.cells cs.toArray ty)).drew := by
  subst hW
  have := run_storeCells_new (P := P) W.drew ty old cs.toArray (by simpa [hn] using hi) (by simpa [hn] using hold) h1
  exact this
theorem run_cells_row (w : World) (ty : TypeId) (old : Array Value) (g : Nat) (hg : w.heap[g]? = some (.cells old ty (0, 0))) (cs : List Value) (n : Nat) (hi : (P.info? ty).map (·.size) = some n) (hn : cs.length = n) (hold : old.size = n) (h1 : cs.toArray.all (·.oneCell') = true) :
    (storeCells ⟨g, 0, none⟩ cs 0).run P w = .ok () (w.setRow g cs.toArray) := by
  have := run_storeVar_row (P := P) w g ty ty old cs.toArray hg (by simpa [hn] using hi) (by simpa [hn] using hold) h1
  cases hq : P.info? ty with
  | none => simp [hq] at hi
  | some i =>
    have hs : cs.length = i.size := by simp [hq] at hi; omega
    simpa [storeVar, sizeOf, typeInfo, hq, Value.cells, hs] using this
/-- A struct is stored, its cells unopened, into a block of its own. -/
theorem store_row (hgd : o.guard = none) (ty : TypeId) (p x : Operand) (ho : o.op = .store ty p x) (hd : o.dst = none) (g : Nat) (old : Array Value) (cs : List Value) (hg : w.heap[g]? = some (.cells old ty (0, 0))) (hp : a.eval p = .pointer (some ⟨g, 0, none⟩)) (hx : a.eval x = .agg cs.toArray)
    (n : Nat) (hi : (P.info? ty).map (·.size) = some n) (hn : cs.length = n) (hold : old.size = n) (h1 : cs.toArray.all (·.oneCell') = true) (h : wpList P ops Q rest a (w.setRow g cs.toArray)) : wpList P ops Q (o :: rest) a w :=
  wpList_plain hgd fun K hK => by
    unfold Oper.wp execOp
    have hs : cs.toArray.size = cs.length := by simp
    have hst : (Instr.storeAt ty (.pointer (some ⟨g, 0, none⟩)) (.agg cs.toArray)).run P w = .ok () (w.setRow g cs.toArray) := by
      simp only [Instr.storeAt, Instr.sureAddr, Sem.run_bind, Sem.run_pure, Result.andThen]
      exact run_storeVar_row w g ty ty old cs.toArray hg (by rw [hs, hn]; exact hi) (by rw [hs, hn]; exact hold) h1
    simp only [ho, hp, hx, Sem.run_bind, hst]
    rw [show a = a.put o.dst undef by rw [hd]; rfl] at h
    exact hK _ _ h
end
theorem heap_setRow (w : World) (g : Nat) (cs old : Array Value) (t : TypeId) (h : w.heap[g]? = some (.cells old t (0, 0))) : (w.setRow g cs).heap[g]? = some (.cells cs t (0, 0)) := setRow_heap w g old cs t _ h
theorem below_row {w0 w : World} (h : Below w0.heap.size w0 w) {g : Nat} (hg : w0.heap.size ≤ g) (cs : Array Value) : Below w0.heap.size w0 (w.setRow g cs) :=
  h.trans ⟨rfl, rfl, rfl, by simp, fun k hk => setRow_other w g k cs (by omega)⟩
/-- a new block: all that was stays -/
theorem below_new {w0 w : World} (h : Below w0.heap.size w0 w) (o : Obj) : Below w0.heap.size w0 (w.alloc o) := h.alloc h.size o
theorem below_trans {w0 w w1 : World} (h : Below w0.heap.size w0 w) (k : Below w.heap.size w w1) : Below w0.heap.size w0 w1 := h.trans (k.mono h.size)
theorem cell_new (w : World) (cs : List Value) (t : TypeId) (f : Nat × Nat) (j : Nat) : (w.alloc (.cells cs.toArray t f)).cell? ⟨w.heap.size, j, none⟩ = cs[j]? := by
  rw [cell_of_row _ _ _ cs.toArray t f (heap_alloc_new w _)]; simp
theorem addr_zero_add (g j : Nat) : (⟨g, 0, none⟩ : Addr).add j = ⟨g, j, none⟩ := by unfold Addr.add; split <;> simp_all
theorem cells_new (w : World) (cs : List Value) (t : TypeId) (f : Nat × Nat) : CellsAt (w.alloc (.cells cs.toArray t f)) ⟨w.heap.size, 0, none⟩ 0 cs := fun j u hj => by
  rw [Nat.zero_add, addr_zero_add, cell_new]; exact hj
theorem cells_row {w : World} {g : Nat} {cs : List Value} {t : TypeId} {f : Nat × Nat} (h : w.heap[g]? = some (.cells cs.toArray t f)) : CellsAt w ⟨g, 0, none⟩ 0 cs := fun j u hj => by
  rw [Nat.zero_add, addr_zero_add, cell_of_row _ _ _ _ _ _ h]; simpa using hj
theorem cell_kept {w w1 : World} (hb : Below w.heap.size w w1) {a : Addr} {v : Value} (h : w.cell? a = some v) : w1.cell? a = some v := (hb.cell (World.block_lt_of_cell? w _ h)).trans h
theorem drop_get {α : Type} {l : List α} {k : Nat} {q : α} (h : l[k]? = some q) : l.drop k = q :: l.drop (k + 1) := by
  obtain ⟨hlt, rfl⟩ := List.getElem?_eq_some_iff.1 h
  exact List.drop_eq_getElem_cons hlt
/-- A call of function g enters it. -/
theorem enters {P : Program} {g : FuncId} {fn : Func} {c : Code} (hf : P.funcs[g]? = some fn) (hname : (fn.name == "runtime.NumGoroutine") = false) (hb : fn.body = some c) (args : Array Value) (w : World) : (callFunc g args).run P w = .ok (.enter g args) w := by
  have h1 : fn.name ≠ "runtime.NumGoroutine" := by simpa using hname
  simp [callFunc, hf, h1, hb, mark]
/-- it returns b, and all that was stays -/
def RBool (b : Bool) (w : World) (e : Ending) (w' : World) : Prop := e = .returned (.bool b) ∧ Below w.heap.size w w'
theorem ret_bool {a b : Bool} (h : a = b) : Ending.returned (.bool a) = .returned (.bool b) := by rw [h]
theorem ret_int {k : IntKind} {a b : Int} (h : a = b) : Ending.returned (.int k a) = .returned (.int k b) := by rw [h]
def RInt (b : Int) (w : World) (e : Ending) (w' : World) : Prop := e = .returned (.int .i64 b) ∧ Below w.heap.size w w'
end Go.Proofs.Ytgdgcloenhnbiaa
