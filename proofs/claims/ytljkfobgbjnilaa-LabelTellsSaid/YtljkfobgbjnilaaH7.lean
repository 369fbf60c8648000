/- The walks of the law's own builders of expressions: name, not, and, or. -/
import Derived.Test.YtljkfobgbjnilaaH6
import Derived.Test.YtljkfobgbjnilaaJ0
namespace Go.Proofs.Ytljkfobgbjnilaa
open Go.RowKit

/-- an expression of the world at hand -/
abbrev RW (w : World) (e : E) (cs : List Value) : Prop := RE (fun k => k < w.heap.size) w e cs
/-- a list of texts of the world at hand -/
abbrev SW (w : World) (l : List ByteArray) (A : Option Addr) (c : Nat) : Prop := SL (fun k => k < w.heap.size) w l A c
theorem RE.up {S : Nat → Prop} {w w' : World} {e : E} {cs : List Value} (h : RE S w e cs) (hb : Below w.heap.size w w') (hS : ∀ k, S k → k < w'.heap.size) : RW w' e cs :=
  h.move hS fun _ _ _ hc => (hb.cell (World.block_lt_of_cell? w _ hc)).trans hc
theorem RE.upW {w w' : World} {e : E} {cs : List Value} (h : RW w e cs) (hb : Below w.heap.size w w') : RW w' e cs := RE.up h hb fun _ hk => Nat.lt_of_lt_of_le hk hb.size
theorem SL.upW {w w' : World} {l : List ByteArray} {A : Option Addr} {c : Nat} (h : SW w l A c) (hb : Below w.heap.size w w') : SW w' l A c :=
  ⟨h.cap, h.big, h.nil, fun a ha h0 => Nat.lt_of_lt_of_le (h.ok a ha h0) hb.size, fun a ha i s hs => cell_kept hb (h.mem a ha i s hs)⟩
theorem sl_lit (w : World) (l : List ByteArray) (t : TypeId) (f : Nat × Nat) (hbig : l.length ≤ 281474976710656) : SW (w.alloc (.cells (l.map Value.string).toArray t f)) l (some ⟨w.heap.size, 0, none⟩) l.length :=
  ⟨Nat.le_refl _, hbig, (fun ha => by cases ha), (fun a ha _ => by cases ha; simp), fun a ha i s hs => by
    cases ha
    rw [addr_zero_add, cell_new, List.getElem?_map, hs]; rfl⟩
theorem sl_nil (w : World) : SW w [] none 0 := ⟨Nat.le_refl _, Nat.zero_le _, fun _ => rfl, (fun a ha => by cases ha), (fun a ha => by cases ha)⟩
/-- it returns an expression, and all that was stays -/
def RExpr (e : E) (w : World) (r : Ending) (w' : World) : Prop := ∃ cs, r = .returned (.agg cs.toArray) ∧ RW w' e cs ∧ Below w.heap.size w w'
/-- an expression without kids -/
theorem re_leaf (w : World) (e : E) (h : e.kids = []) : RW w e (cellsE e none 0) :=
  .mk e _ none 0 (fun _ => []) rfl rfl rfl rfl rfl rfl rfl rfl (by rw [h]; exact Nat.le_refl _) (by rw [h]; exact Nat.zero_le _) (fun _ => h) (fun i q hq => by rw [h] at hq; cases hq) (fun a ha => by cases ha) (fun a ha => by cases ha)
/-- an expression whose kids lie in a row that was made -/
theorem re_kids {w : World} {e : E} {g : Nat} {css : Nat → List Value} (hg : g < w.heap.size) (hbig : e.kids.length ≤ 281474976710656) (hk : ∀ i q, e.kids[i]? = some q → RW w q (css i) ∧ CellsAt w ⟨g, 0, none⟩ (i * 7) (css i)) :
    RW w e (cellsE e (some ⟨g, 0, none⟩) e.kids.length) :=
  .mk e _ (some ⟨g, 0, none⟩) e.kids.length css rfl rfl rfl rfl rfl rfl rfl rfl (Nat.le_refl _) hbig (fun ha => by cases ha) (fun i q hq => (hk i q hq).1) (fun a ha _ => by cases ha; exact hg)
    (fun a ha i hi => by cases ha; exact (hk i _ (List.getElem?_eq_getElem hi)).2)

theorem heap_at (w : World) (o : Obj) (k : Nat) (hk : k = w.heap.size) : (w.alloc o).heap[k]? = some o := by subst hk; exact heap_alloc_new w o
theorem heap_past (w : World) (o : Obj) (k : Nat) (x : Obj) (h : w.heap[k]? = some x) : (w.alloc o).heap[k]? = some x := (Below.heap_alloc _ o _ (Array.getElem?_eq_some_iff.1 h).1).trans h
theorem cellsE_one (e : E) (A : Option Addr) (c : Nat) : (cellsE e A c).toArray.all (·.oneCell') = true := one_of (n := 7) rfl (FE.mk_ e A c).cell
theorem lt_get {W : World} {k : Nat} {o : Obj} (h : W.heap[k]? = some o) : k < W.heap.size := (Array.getElem?_eq_some_iff.1 h).1
theorem made_row {w W : World} {g k : Nat} {old : Array Value} {o : Obj} {t : TypeId} (X : Array Value) (hb : Below w.heap.size w W) (hg : w.heap.size ≤ g) (h1 : W.heap[g]? = some (.cells old t (0, 0))) (h2 : W.heap[k]? = some o) (hne : k ≠ g) :
    (W.setRow g X).heap[g]? = some (.cells X t (0, 0)) ∧ (W.setRow g X).heap[k]? = some o ∧ Below w.heap.size w (W.setRow g X) :=
  ⟨heap_setRow _ _ _ _ _ h1, (setRow_other W g k X hne).trans h2, below_row hb hg X⟩
theorem cells_one {W : World} {g : Nat} {cs : List Value} {t : TypeId} {f : Nat × Nat} (h : W.heap[g]? = some (.cells cs.toArray t f)) : CellsAt W ⟨g, 0, none⟩ 0 cs := cells_row h
theorem cells_two {W : World} {g : Nat} {cs1 cs2 : List Value} {t : TypeId} {f : Nat × Nat} (h : W.heap[g]? = some (.cells (cs1 ++ cs2).toArray t f)) (h1 : cs1.length = 7) : CellsAt W ⟨g, 0, none⟩ 0 cs1 ∧ CellsAt W ⟨g, 0, none⟩ 7 cs2 :=
  ⟨fun j u hj => cells_row h j u (by rw [List.getElem?_append_left (List.getElem?_eq_some_iff.1 hj).1]; exact hj),
   fun j u hj => by
    have := cells_row h (7 + j) u (by rw [List.getElem?_append_right (by omega), h1, Nat.add_sub_cancel_left]; exact hj)
    rwa [Nat.zero_add] at this⟩

set_option maxHeartbeats 400000 in
set_option maxRecDepth 100000 in
theorem name_calls (s : ByteArray) (w : World) : Calls Try.prog 27 #[.string s] w (RExpr (nameE s) w) := by
  go_enter Try.func27, Try.ntmps27
  go_wp2_with (refine store_new rfl 28 _ _ rfl rfl _ _ _ rfl (cellsE (nameE s) none 0) rfl rfl 7 (by kernel_rfl) rfl rfl (cellsE_one _ _ _) ?_)
  refine bodyPost_ret (results_cell_row rfl _ _ w.heap.size 28 (cellsE (nameE s) none 0).toArray (0, 0) _ rfl (heap_alloc_new w _) Try.underlying28 rfl (by kernel_rfl)) rfl ?_
  exact ⟨_, rfl, re_leaf _ _ rfl, below_new (Below.refl _ _) _⟩

set_option maxHeartbeats 400000 in
set_option maxRecDepth 100000 in
theorem not_calls {e : E} {cs : List Value} (w : World) (h : RW w e cs) : Calls Try.prog 25 #[.agg cs.toArray] w (RExpr (notE e) w) := by
  have hlen := h.length
  have hnew := cells_new w cs 28 (0, 0)
  obtain ⟨A, c, css, f, hl⟩ := h.open_
  obtain rfl := f.eq
  unfold cellsE at hnew hlen ⊢
  clear f hl
  have hh := Lib.hid h; clear h
  go_enter Try.func25, Try.ntmps25
  go_wp2_with (first | (refine store_row rfl 28 _ _ rfl rfl (w.heap.size + 1) _ (cellsE (notE e) (some ⟨w.heap.size + 1 + 1, 0, none⟩) 1) (heap_past _ _ _ _ (heap_at _ _ _ (by simp))) rfl rfl 7 (by kernel_rfl) rfl rfl (cellsE_one _ _ _) ?_))
  have hb : Below w.heap.size w (((w.alloc (.cells (cellsE e A c).toArray 28)).alloc (.cells #[.int .i64 0, .string ⟨#[]⟩, .int .i64 0, .int .i64 0, .float .f64 0, .string ⟨#[]⟩, .slice none 0 0] 28)).alloc (.cells (cellsE e A c).toArray 28)) := below_new (below_new (below_new (Below.refl _ _) _) _) _
  obtain ⟨z1, z2, z3⟩ := made_row (g := w.heap.size + 1) (k := w.heap.size + 1 + 1) (cellsE (notE e) (some ⟨w.heap.size + 1 + 1, 0, none⟩) 1).toArray hb (Nat.le_succ _) (heap_past _ _ _ _ (heap_at _ _ _ (by simp))) (heap_at _ _ _ (by simp)) (by omega)
  refine bodyPost_ret (results_cell_row rfl _ _ (w.heap.size + 1) 28 (cellsE (notE e) (some ⟨w.heap.size + 1 + 1, 0, none⟩) 1).toArray (0, 0) _ rfl z1 Try.underlying28 rfl (by kernel_rfl)) rfl ?_
  refine ⟨_, rfl, re_kids (e := notE e) (css := fun _ => cellsE e A c) (lt_get z2) (by show 1 ≤ _; omega) ?_, z3⟩
  intro i q hq
  match i, hq with
  | 0, hq => cases hq; exact ⟨hh.out.upW z3, cells_one z2⟩

theorem two_calls_row {w W : World} {k : Nat} {e1 e2 : E} {cs1 cs2 : List Value} (h1 : RW w e1 cs1) (h2 : RW w e2 cs2) (hb : Below w.heap.size w W) {t : TypeId} {f : Nat × Nat} (hk : W.heap[k]? = some (.cells (cs1 ++ cs2).toArray t f)) (n : Int) :
    RW W ⟨n, ⟨#[]⟩, zVal, [e1, e2]⟩ (cellsE ⟨n, ⟨#[]⟩, zVal, [e1, e2]⟩ (some ⟨k, 0, none⟩) 2) := by
  obtain ⟨c1, c2⟩ := cells_two hk h1.length
  refine re_kids (e := ⟨n, ⟨#[]⟩, zVal, [e1, e2]⟩) (css := fun i => if i = 0 then cs1 else cs2) (lt_get hk) (by show 2 ≤ _; omega) ?_
  intro i q hq
  match i, hq with
  | 0, hq => cases hq; exact ⟨h1.upW hb, c1⟩
  | 1, hq => cases hq; exact ⟨h2.upW hb, c2⟩

set_option maxHeartbeats 400000 in
set_option maxRecDepth 100000 in
theorem and_calls {e1 e2 : E} {cs1 cs2 : List Value} (w : World) (h1 : RW w e1 cs1) (h2 : RW w e2 cs2) : Calls Try.prog 23 #[.agg cs1.toArray, .agg cs2.toArray] w (RExpr (andE e1 e2) w) := by
  have hnew1 := (cells_new w cs1 28 (0, 0)).mono (below_new (Below.refl _ _) (.cells cs2.toArray 28))
  have hnew2 := cells_new (w.alloc (.cells cs1.toArray 28)) cs2 28 (0, 0)
  obtain ⟨A1, c1, css1, f1, hl1⟩ := h1.open_
  obtain rfl := f1.eq
  obtain ⟨A2, c2, css2, f2, hl2⟩ := h2.open_
  obtain rfl := f2.eq
  unfold cellsE at hnew1 hnew2 ⊢
  clear f1 hl1 f2 hl2
  have hh1 := Lib.hid h1; clear h1
  have hh2 := Lib.hid h2; clear h2
  go_enter Try.func23, Try.ntmps23
  go_wp2_with (first | (refine store_row rfl 28 _ _ rfl rfl (w.heap.size + 1 + 1) _ (cellsE (andE e1 e2) (some ⟨w.heap.size + 1 + 1 + 1, 0, none⟩) 2) (heap_past _ _ _ _ (heap_at _ _ _ (by simp))) rfl rfl 7 (by kernel_rfl) rfl rfl (cellsE_one _ _ _) ?_))
  have hb : Below w.heap.size w ((((w.alloc (.cells (cellsE e1 A1 c1).toArray 28)).alloc (.cells (cellsE e2 A2 c2).toArray 28)).alloc (.cells #[.int .i64 0, .string ⟨#[]⟩, .int .i64 0, .int .i64 0, .float .f64 0, .string ⟨#[]⟩, .slice none 0 0] 28)).alloc (.cells (cellsE e1 A1 c1 ++ cellsE e2 A2 c2).toArray 28)) := below_new (below_new (below_new (below_new (Below.refl _ _) _) _) _) _
  obtain ⟨z1, z2, z3⟩ := made_row (g := w.heap.size + 1 + 1) (k := w.heap.size + 1 + 1 + 1) (cellsE (andE e1 e2) (some ⟨w.heap.size + 1 + 1 + 1, 0, none⟩) 2).toArray hb (by omega) (heap_past _ _ _ _ (heap_at _ _ _ (by simp))) (heap_at _ _ _ (by simp)) (by omega)
  refine bodyPost_ret (results_cell_row rfl _ _ (w.heap.size + 1 + 1) 28 (cellsE (andE e1 e2) (some ⟨w.heap.size + 1 + 1 + 1, 0, none⟩) 2).toArray (0, 0) _ rfl z1 Try.underlying28 rfl (by kernel_rfl)) rfl ?_
  exact ⟨_, rfl, two_calls_row hh1.out hh2.out z3 z2 7, z3⟩

set_option maxHeartbeats 400000 in
set_option maxRecDepth 100000 in
theorem or_calls {e1 e2 : E} {cs1 cs2 : List Value} (w : World) (h1 : RW w e1 cs1) (h2 : RW w e2 cs2) : Calls Try.prog 24 #[.agg cs1.toArray, .agg cs2.toArray] w (RExpr (orE e1 e2) w) := by
  have hnew1 := (cells_new w cs1 28 (0, 0)).mono (below_new (Below.refl _ _) (.cells cs2.toArray 28))
  have hnew2 := cells_new (w.alloc (.cells cs1.toArray 28)) cs2 28 (0, 0)
  obtain ⟨A1, c1, css1, f1, hl1⟩ := h1.open_
  obtain rfl := f1.eq
  obtain ⟨A2, c2, css2, f2, hl2⟩ := h2.open_
  obtain rfl := f2.eq
  unfold cellsE at hnew1 hnew2 ⊢
  clear f1 hl1 f2 hl2
  have hh1 := Lib.hid h1; clear h1
  have hh2 := Lib.hid h2; clear h2
  go_enter Try.func24, Try.ntmps24
  go_wp2_with (first | (refine store_row rfl 28 _ _ rfl rfl (w.heap.size + 1 + 1) _ (cellsE (orE e1 e2) (some ⟨w.heap.size + 1 + 1 + 1, 0, none⟩) 2) (heap_past _ _ _ _ (heap_at _ _ _ (by simp))) rfl rfl 7 (by kernel_rfl) rfl rfl (cellsE_one _ _ _) ?_))
  have hb : Below w.heap.size w ((((w.alloc (.cells (cellsE e1 A1 c1).toArray 28)).alloc (.cells (cellsE e2 A2 c2).toArray 28)).alloc (.cells #[.int .i64 0, .string ⟨#[]⟩, .int .i64 0, .int .i64 0, .float .f64 0, .string ⟨#[]⟩, .slice none 0 0] 28)).alloc (.cells (cellsE e1 A1 c1 ++ cellsE e2 A2 c2).toArray 28)) := below_new (below_new (below_new (below_new (Below.refl _ _) _) _) _) _
  obtain ⟨z1, z2, z3⟩ := made_row (g := w.heap.size + 1 + 1) (k := w.heap.size + 1 + 1 + 1) (cellsE (orE e1 e2) (some ⟨w.heap.size + 1 + 1 + 1, 0, none⟩) 2).toArray hb (by omega) (heap_past _ _ _ _ (heap_at _ _ _ (by simp))) (heap_at _ _ _ (by simp)) (by omega)
  refine bodyPost_ret (results_cell_row rfl _ _ (w.heap.size + 1 + 1) 28 (cellsE (orE e1 e2) (some ⟨w.heap.size + 1 + 1 + 1, 0, none⟩) 2).toArray (0, 0) _ rfl z1 Try.underlying28 rfl (by kernel_rfl)) rfl ?_
  exact ⟨_, rfl, two_calls_row hh1.out hh2.out z3 z2 8, z3⟩
end Go.Proofs.Ytljkfobgbjnilaa
