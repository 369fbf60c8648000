/- The walks of label.holds and label.Has. -/
import Derived.Test.YtljkfobgbjnilaaH2
namespace Go.Proofs.Ytljkfobgbjnilaa
open Go.RowKit

set_option maxHeartbeats 400000 in
set_option maxRecDepth 100000 in
theorem kind4_calls {w0 : World} {S : Nat → Prop} {e : E} {cs : List Value} (h : RE S w0 e cs) (v : Value) (b b' : Bool) (h1 : 1 < e.kids.length) (H : ∀ cs', RE S w0 (kidE e 0) cs' → ∀ w, Below w0.heap.size w0 w → Calls Try.prog 29 #[v, .agg cs'.toArray] w (RBool b w))
    (H' : ∀ cs', RE S w0 (kidE e 1) cs' → ∀ w, Below w0.heap.size w0 w → Calls Try.prog 29 #[v, .agg cs'.toArray] w (RBool b' w))
    (w : World) (hb : Below w0.heap.size w0 w) : Calls Try.prog 49 #[v, .agg cs.toArray] w (RBool (b && b') w) := by
  obtain ⟨A, c, css, f, hl⟩ := h.open_
  have hbig := hl.big
  have k6 := (cell_new w cs 28 (0, 0) 6).trans f.c6
  have hb1 : Below w.heap.size w (w.alloc (.cells cs.toArray 28)) := below_new (Below.refl _ _) _
  have h0 : 0 < e.kids.length := by omega
  obtain ⟨q, ad, hq, rfl, hr, -, -⟩ := hl.at_ h0
  obtain ⟨q1, ad1, hq1, he1, hr1, -, -⟩ := hl.at_ h1
  obtain rfl : ad = ad1 := by simpa using he1
  obtain ⟨-, ad', -, he, -, hcell, hlenk⟩ := (hl.mono (below_trans hb hb1)).at_ h0
  obtain rfl : ad = ad' := by simpa using he
  obtain ⟨-, ad', -, he', -, hcell1, hlenk1⟩ := (hl.mono (below_trans hb hb1)).at_ h1
  obtain rfl : ad = ad' := by simpa using he'
  have hk : kidE e 0 = q := by unfold kidE; rw [hq]; rfl
  have hk1 : kidE e 1 = q1 := by unfold kidE; rw [hq1]; rfl
  rw [hk] at H
  rw [hk1] at H'
  have HH := Lib.hid (H _ hr _ (below_trans hb hb1))
  have HH1 := Lib.hid (H' _ hr1)
  have hw2 := below_trans hb hb1
  clear h f hl hr hr1 H H' hq hq1 hk hk1 he he' he1
  generalize e.kids.length = n at *
  go_enter Try.func49, Try.ntmps49
  cases b
  · go_wp2_with (first | (refine load_cells rfl 28 _ rfl _ rfl (css 0) hcell _ Try.underlying28 rfl 7 (by kernel_rfl) hlenk ?_) | (go_at_call 29; (with_reducible refine HH.out.mono ?_); rintro e2 w2 ⟨rfl, hb2⟩; have hb3 := below_trans hb1 hb2))
    go_ret
    exact ⟨ret_bool rfl, hb3⟩
  · go_wp2_with (first | (refine load_cells rfl 28 _ rfl _ rfl (css 0) hcell _ Try.underlying28 rfl 7 (by kernel_rfl) hlenk ?_) | (refine load_on (by rfl) 28 _ rfl _ rfl (css 1) hcell2 _ Try.underlying28 rfl 7 (by kernel_rfl) hlenk1 ?_) | (go_at_call 29; (with_reducible refine HH.out.mono ?_); rintro e2 w2 ⟨rfl, hb2⟩; have hb3 := below_trans hb1 hb2; have k62 := cell_kept hb2 k6; have hcell2 := hcell1.mono hb2; have H3 := Lib.hid (HH1.out w2 (below_trans hw2 hb2))) | (go_at_call 29; (with_reducible refine H3.out.mono ?_); rintro e3 w3 ⟨rfl, hb4⟩; have hb5 := below_trans hb3 hb4))
    go_ret
    exact ⟨ret_bool rfl, hb5⟩

set_option maxHeartbeats 400000 in
set_option maxRecDepth 100000 in
theorem kind5_calls {w0 : World} {S : Nat → Prop} {e : E} {cs : List Value} (h : RE S w0 e cs) (v : Value) (b b' : Bool) (h1 : 1 < e.kids.length) (H : ∀ cs', RE S w0 (kidE e 0) cs' → ∀ w, Below w0.heap.size w0 w → Calls Try.prog 29 #[v, .agg cs'.toArray] w (RBool b w))
    (H' : ∀ cs', RE S w0 (kidE e 1) cs' → ∀ w, Below w0.heap.size w0 w → Calls Try.prog 29 #[v, .agg cs'.toArray] w (RBool b' w))
    (w : World) (hb : Below w0.heap.size w0 w) : Calls Try.prog 50 #[v, .agg cs.toArray] w (RBool (b || b') w) := by
  obtain ⟨A, c, css, f, hl⟩ := h.open_
  have hbig := hl.big
  have k6 := (cell_new w cs 28 (0, 0) 6).trans f.c6
  have hb1 : Below w.heap.size w (w.alloc (.cells cs.toArray 28)) := below_new (Below.refl _ _) _
  have h0 : 0 < e.kids.length := by omega
  obtain ⟨q, ad, hq, rfl, hr, -, -⟩ := hl.at_ h0
  obtain ⟨q1, ad1, hq1, he1, hr1, -, -⟩ := hl.at_ h1
  obtain rfl : ad = ad1 := by simpa using he1
  obtain ⟨-, ad', -, he, -, hcell, hlenk⟩ := (hl.mono (below_trans hb hb1)).at_ h0
  obtain rfl : ad = ad' := by simpa using he
  obtain ⟨-, ad', -, he', -, hcell1, hlenk1⟩ := (hl.mono (below_trans hb hb1)).at_ h1
  obtain rfl : ad = ad' := by simpa using he'
  have hk : kidE e 0 = q := by unfold kidE; rw [hq]; rfl
  have hk1 : kidE e 1 = q1 := by unfold kidE; rw [hq1]; rfl
  rw [hk] at H
  rw [hk1] at H'
  have HH := Lib.hid (H _ hr _ (below_trans hb hb1))
  have HH1 := Lib.hid (H' _ hr1)
  have hw2 := below_trans hb hb1
  clear h f hl hr hr1 H H' hq hq1 hk hk1 he he' he1
  generalize e.kids.length = n at *
  go_enter Try.func50, Try.ntmps50
  cases b
  · go_wp2_with (first | (refine load_cells rfl 28 _ rfl _ rfl (css 0) hcell _ Try.underlying28 rfl 7 (by kernel_rfl) hlenk ?_) | (refine load_on (by rfl) 28 _ rfl _ rfl (css 1) hcell2 _ Try.underlying28 rfl 7 (by kernel_rfl) hlenk1 ?_) | (go_at_call 29; (with_reducible refine HH.out.mono ?_); rintro e2 w2 ⟨rfl, hb2⟩; have hb3 := below_trans hb1 hb2; have k62 := cell_kept hb2 k6; have hcell2 := hcell1.mono hb2; have H3 := Lib.hid (HH1.out w2 (below_trans hw2 hb2))) | (go_at_call 29; (with_reducible refine H3.out.mono ?_); rintro e3 w3 ⟨rfl, hb4⟩; have hb5 := below_trans hb3 hb4))
    go_ret
    exact ⟨ret_bool rfl, hb5⟩
  · go_wp2_with (first | (refine load_cells rfl 28 _ rfl _ rfl (css 0) hcell _ Try.underlying28 rfl 7 (by kernel_rfl) hlenk ?_) | (go_at_call 29; (with_reducible refine HH.out.mono ?_); rintro e2 w2 ⟨rfl, hb2⟩; have hb3 := below_trans hb1 hb2))
    go_ret
    exact ⟨ret_bool rfl, hb3⟩

theorem arity_of_term {n : Nat} {e : E} (h : term (n + 1) e = true) : ∃ k b, arity e.kind = some (k, b) ∧ e.kids.length = k ∧ ∀ q ∈ e.kids, term n q = true := by
  rw [term_succ] at h
  rcases har : arity e.kind with _ | ⟨k, b⟩
  · rw [har] at h; simp at h
  · rw [har] at h
    simp only [Bool.and_eq_true, List.all_eq_true, beq_iff_eq] at h
    exact ⟨k, b, rfl, h.1.1.1.1, h.2⟩
theorem kid_mem {e : E} {i : Nat} (h : i < e.kids.length) : kidE e i ∈ e.kids := by
  unfold kidE; rw [List.getElem?_eq_getElem h]; exact List.getElem_mem h

theorem holds_calls (n : Nat) : ∀ {S S' : Nat → Prop} {w0 : World} {e : E} {cs : List Value}, RE S w0 e cs → term n e = true → ∀ {l : List ByteArray} {A : Option Addr} {c : Nat}, SL S' w0 l A c → ∀ w, Below w0.heap.size w0 w →
    Calls Try.prog 29 #[.slice A l.length c, .agg cs.toArray] w (RBool (holdsN n l e) w) := by
  induction n with
  | zero => intro S S' w0 e cs h ht; rw [term_zero] at ht; cases ht
  | succ n ih =>
    intro S S' w0 e cs h ht l A c hs w hb
    obtain ⟨k, b, har, hk, hkt⟩ := arity_of_term ht
    unfold holdsN
    unfold arity at har
    by_cases h4 : e.kind = 4
    · rw [if_pos h4]
      exact holds_step h _ _ 45 0 true (by rw [h4]; rfl) eg1 (fun W hW => kind1_calls h hs W hW) w hb
    by_cases h5 : e.kind = 5
    · rw [if_neg h4, if_pos h5]
      exact holds_step h _ _ 47 0 false (by rw [h5]; rfl) eg2 (fun W hW => kind2_calls hs.big W) w hb
    by_cases h6 : e.kind = 6
    · rw [if_neg h4, if_neg h5, if_pos h6]
      rw [if_neg h4, if_neg h5, if_pos h6] at har
      have h0 : 0 < e.kids.length := by simp at har; omega
      exact holds_step h _ _ 48 1 false (by rw [h6]; rfl) eg3 (fun W hW => kind3_calls h _ _ h0 (fun cs' hr w hw => ih hr (hkt _ (kid_mem h0)) hs w hw) W hW) w hb
    by_cases h7 : e.kind = 7
    · rw [if_neg h4, if_neg h5, if_neg h6, if_pos h7]
      rw [if_neg h4, if_neg h5, if_neg h6, if_pos h7] at har
      have h0 : 1 < e.kids.length := by simp at har; omega
      exact holds_step h _ _ 49 2 false (by rw [h7]; rfl) eg4 (fun W hW => kind4_calls h _ _ _ h0 (fun cs' hr w hw => ih hr (hkt _ (kid_mem (by omega))) hs w hw) (fun cs' hr w hw => ih hr (hkt _ (kid_mem h0)) hs w hw) W hW) w hb
    by_cases h8 : e.kind = 8
    · rw [if_neg h4, if_neg h5, if_neg h6, if_neg h7, if_pos h8]
      rw [if_neg h4, if_neg h5, if_neg h6, if_neg h7, if_pos h8] at har
      have h0 : 1 < e.kids.length := by simp at har; omega
      exact holds_step h _ _ 50 2 false (by rw [h8]; rfl) eg5 (fun W hW => kind5_calls h _ _ _ h0 (fun cs' hr w hw => ih hr (hkt _ (kid_mem (by omega))) hs w hw) (fun cs' hr w hw => ih hr (hkt _ (kid_mem h0)) hs w hw) W hW) w hb
    · rw [if_neg h4, if_neg h5, if_neg h6, if_neg h7, if_neg h8] at har
      cases har
end Go.Proofs.Ytljkfobgbjnilaa
