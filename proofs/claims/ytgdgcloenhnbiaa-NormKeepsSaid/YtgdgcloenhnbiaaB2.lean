/- The walk of label.Right. -/
import Derived.Test.YtgdgcloenhnbiaaB1
namespace Go.Proofs.Ytgdgcloenhnbiaa
open Go.RowKit

section
variable {P : Program} {ops : Array Oper} {rest : List Oper} {o : Oper} {a : Act} {w : World} {Q : Exit → Act → World → Prop}
/-- A struct is loaded, its cells unopened, by an operation whose guard is on. -/
theorem load_on (hgd : Region.wanted o (yielded ops a.tmps) = true) (ty : TypeId) (x : Operand) (ho : o.op = .load ty x) (ad : Addr) (hx : a.eval x = .pointer (some ad)) (cs : List Value) (hc : CellsAt w ad 0 cs) (d : TypeDesc) (hu : P.underlying ty = some d)
    (hd : (match d with | .struct _ | .array _ _ => true | _ => false) = true) (n : Nat) (hi : (P.info? ty).map (·.size) = some n) (hn : cs.length = n) (h : wpList P ops Q rest (a.put o.dst (.agg cs.toArray)) w) : wpList P ops Q (o :: rest) a w :=
  wpList_step fun K hK => by
    rw [if_pos hgd]
    unfold Oper.wp execOp
    simp only [ho, hx, Instr.loadAt, Instr.sureAddr, Sem.run_bind, Sem.run_pure, Result.andThen_ok, run_load_cells ty ad cs hc d hu hd (hn ▸ hi)]
    exact hK _ _ h
end

set_option maxHeartbeats 1000000 in
set_option maxRecDepth 100000 in
theorem labelRight_calls {S : Nat → Prop} {w0 : World} {e : E} {cs : List Value} (h : RE S w0 e cs) : ∀ w, Below w0.heap.size w0 w → Calls Try.prog 78 #[.agg cs.toArray] w (RBool (labelRight e) w) := by
  intro w hb
  obtain ⟨A, c, css, f, hl⟩ := h.open_
  have hlen := h.length
  have hbig := hl.big
  have hnew := cells_new w cs 27 (0, 0)
  have k0 := (cell_new w cs 27 (0, 0) 0).trans f.c0
  have k1 := (cell_new w cs 27 (0, 0) 1).trans f.c1
  have k6 := (cell_new w cs 27 (0, 0) 6).trans f.c6
  have hb1 : Below w.heap.size w (w.alloc (.cells cs.toArray 27)) := below_new (Below.refl _ _) _
  have HB := Lib.hid (bare_calls h (w.alloc (.cells cs.toArray 27)))
  have HT := Lib.hid (term_calls 50 (by omega) h _ (below_trans hb hb1))
  clear h f hl
  go_enter Try.func78, Try.ntmps78
  by_cases hk : e.kind = 0
  · have hkb : (e.kind == 0) = true := by rw [beq_iff_eq]; exact hk
    cases hem : emptyS e.name
    · have hne : (e.name.toList.isEmpty) = false := hem
      have hres : Hid (labelRight e = false) := by show _ = _; unfold labelRight; rw [if_pos hk, hem]; rfl
      clear hk hem
      go_wp2
      go_ret
      exact ⟨ret_bool hres.out.symm, hb1⟩
    · have hne : (e.name.toList.isEmpty) = true := hem
      have hres : Hid (labelRight e = (bareV e.val && e.kids.isEmpty)) := by show _ = _; unfold labelRight; rw [if_pos hk, hem]; rfl
      clear hk hem
      cases hbv : bareV e.val
      · have hbh := Lib.hid hbv
        have hres' : Hid (labelRight e = false) := by show _ = _; rw [hres.out, hbv]; rfl
        clear hbv hres
        go_wp2_with (first | (refine load_on (by rfl) 27 _ rfl _ rfl cs hnew _ Try.underlying27 rfl 7 (by kernel_rfl) hlen ?_) | (go_at_call 91; refine HB.out.mono ?_; rintro e2 w2 ⟨rfl, hb2⟩; rw [hbh.out]; have hb3 := below_trans hb1 hb2; have k6' := cell_kept hb2 k6))
        go_ret
        exact ⟨ret_bool hres'.out.symm, hb3⟩
      · have hbh := Lib.hid hbv
        have hres' : Hid (labelRight e = ((e.kids.length : Int) == 0)) := by show _ = _; rw [hres.out, hbv]; cases e.kids <;> simp; omega
        clear hbv hres
        go_wp2_with (first | (refine load_on (by rfl) 27 _ rfl _ rfl cs hnew _ Try.underlying27 rfl 7 (by kernel_rfl) hlen ?_) | (go_at_call 91; refine HB.out.mono ?_; rintro e2 w2 ⟨rfl, hb2⟩; rw [hbh.out]; have hb3 := below_trans hb1 hb2; have k6' := cell_kept hb2 k6))
        go_ret
        exact ⟨ret_bool hres'.out.symm, hb3⟩
  · have hkb : (e.kind == 0) = false := by rw [beq_eq_false_iff_ne]; exact hk
    have hres : Hid (labelRight e = term 50 e) := by show _ = _; unfold labelRight; rw [if_neg hk]
    clear hk
    go_wp2_with (first | (refine load_cells rfl 27 _ rfl _ rfl cs hnew _ Try.underlying27 rfl 7 (by kernel_rfl) hlen ?_) | (go_at_call 92; refine HT.out.mono ?_; rintro e2 w2 ⟨rfl, hb2⟩; have hb3 := below_trans hb1 hb2))
    go_ret
    exact ⟨ret_bool hres.out.symm, hb3⟩
end Go.Proofs.Ytgdgcloenhnbiaa
