/- The walk of label.Has. -/
import Derived.Test.YtljkfobgbjnilaaH3
namespace Go.Proofs.Ytljkfobgbjnilaa
open Go.RowKit

theorem term_of_right {e : E} (h : labelRight e = true) (hk : e.kind ≠ 0) : term 50 e = true := by
  unfold labelRight at h; rwa [if_neg hk] at h

set_option maxHeartbeats 1000000 in
set_option maxRecDepth 100000 in
theorem has_calls {S S' : Nat → Prop} {w0 : World} {e : E} {cs : List Value} (h : RE S w0 e cs) {l : List ByteArray} {A : Option Addr} {c : Nat} (hs : SL S' w0 l A c) : ∀ w, Below w0.heap.size w0 w →
    Calls Try.prog 13 #[.slice A l.length c, .agg cs.toArray] w (RBool (hasL l e) w) := by
  intro w hb
  obtain ⟨A', c', css, f, hl⟩ := h.open_
  have hlen := h.length
  have hnew := cells_new w cs 28 (0, 0)
  have k0 := (cell_new w cs 28 (0, 0) 0).trans f.c0
  have hb1 : Below w.heap.size w (w.alloc (.cells cs.toArray 28)) := below_new (Below.refl _ _) _
  have hbw := below_trans hb hb1
  have HR := Lib.hid (labelRight_calls h _ hbw)
  by_cases hr : labelRight e = true
  · by_cases hk : e.kind = 0
    · have hkb : (e.kind == 0) = true := by rw [beq_iff_eq]; exact hk
      have hres : Hid (hasL l e = true) := by show _ = _; unfold hasL; rw [hr, hkb]; rfl
      have hrr := Lib.hid hr
      clear h f hl hs hr hk
      generalize l.length = n at *
      go_enter Try.func13, Try.ntmps13
      go_wp2_with (first | (refine load_cells rfl 28 _ rfl _ rfl cs hnew _ Try.underlying28 rfl 7 (by kernel_rfl) hlen ?_) | (go_at_call 19; (with_reducible refine HR.out.mono ?_); rintro e2 w2 ⟨rfl, hb2⟩; rw [hrr.out]; have hb3 := below_trans hb1 hb2; have k02 := cell_kept hb2 k0))
      go_ret
      exact ⟨ret_bool hres.out.symm, hb3⟩
    · have hkb : (e.kind == 0) = false := by rw [beq_eq_false_iff_ne]; exact hk
      have hres : Hid (hasL l e = holdsN 50 l e) := by show _ = _; unfold hasL; rw [hr, hkb]; rfl
      have HH := Lib.hid (holds_calls 50 h (term_of_right hr hk) hs)
      have hrr := Lib.hid hr
      clear h f hl hs hr hk
      generalize holdsN 50 l e = r at *
      generalize l.length = n at *
      go_enter Try.func13, Try.ntmps13
      go_wp2_with (first | (refine load_cells rfl 28 _ rfl _ rfl cs hnew _ Try.underlying28 rfl 7 (by kernel_rfl) hlen ?_) | (refine load_on (by rfl) 28 _ rfl _ rfl cs hcell2 _ Try.underlying28 rfl 7 (by kernel_rfl) hlen ?_) | (go_at_call 19; (with_reducible refine HR.out.mono ?_); rintro e2 w2 ⟨rfl, hb2⟩; rw [hrr.out]; have hb3 := below_trans hb1 hb2; have k02 := cell_kept hb2 k0; have hcell2 := hnew.mono hb2; have H3 := Lib.hid (HH.out w2 (below_trans hbw hb2))) | (go_at_call 29; (with_reducible refine H3.out.mono ?_); rintro e3 w3 ⟨rfl, hb4⟩; have hb5 := below_trans hb3 hb4))
      go_ret
      exact ⟨ret_bool hres.out.symm, hb5⟩
  · have hr' : labelRight e = false := by simpa using hr
    have hres : Hid (hasL l e = false) := by show _ = _; unfold hasL; rw [hr']; rfl
    have hrr := Lib.hid hr'
    clear h f hl hs hr hr'
    generalize l.length = n at *
    go_enter Try.func13, Try.ntmps13
    go_wp2_with (first | (refine load_cells rfl 28 _ rfl _ rfl cs hnew _ Try.underlying28 rfl 7 (by kernel_rfl) hlen ?_) | (go_at_call 19; (with_reducible refine HR.out.mono ?_); rintro e2 w2 ⟨rfl, hb2⟩; rw [hrr.out]; have hb3 := below_trans hb1 hb2))
    go_ret
    exact ⟨ret_bool hres.out.symm, hb3⟩
end Go.Proofs.Ytljkfobgbjnilaa
