/- The walk of the law LabelWords. -/
import Derived.Test.YtljkfobgbjnilaaHX
import Derived.Test.YtljkfobgbjnilaaJ1
namespace Go.Proofs.Ytljkfobgbjnilaa
open Go.RowKit

set_option maxHeartbeats 4000000 in
set_option maxRecDepth 100000 in
theorem labelWords_walk (w : World) {a b : ByteArray} (ha : a.size ≤ 140737488351232) (hb : b.size ≤ 140737488351232) : Calls Try.prog 6 #[.string a, .string b] w (RBool true w) := by
  have tok0 : True := trivial
  obtain ⟨a', ha'⟩ : ∃ a', a.extract 0 (min (a.size : Int) 50).toNat = a' := ⟨_, rfl⟩
  obtain ⟨b', hb'⟩ : ∃ b', b.extract 0 (min (b.size : Int) 50).toNat = b' := ⟨_, rfl⟩
  have sa : a'.size ≤ 50 := by rw [← ha', ByteArray.size_extract]; omega
  have sb : b'.size ≤ 50 := by rw [← hb', ByteArray.size_extract]; omega
  obtain ⟨s1, g1, f1'⟩ : ∃ s, (∀ W : World, (Op.stringOp .add a' b').run Try.prog W = .ok (.string s) W) ∧ (word a' = true → word b' = true → word s = decide (a'.size + b'.size ≤ 40)) := ⟨_, fun W => run_string_add_sum W a' b' (by omega), word_two a' b'⟩
  obtain ⟨s2, g2, f2'⟩ : ∃ s, (∀ W : World, (Op.stringOp .add ⟨#[95]⟩ a').run Try.prog W = .ok (.string s) W) ∧ (word a' = true → word s = decide (a'.size < 40)) := ⟨_, fun W => run_string_add_sum W _ a' (by show 1 + a'.size ≤ _; omega), word_under a'⟩
  obtain ⟨s3, g3, f3'⟩ : ∃ s, (∀ W : World, (Op.stringOp .add ⟨#[57]⟩ a').run Try.prog W = .ok (.string s) W) ∧ word s = false := ⟨_, fun W => run_string_add_sum W _ a' (by show 1 + a'.size ≤ _; omega), word_nine a'⟩
  obtain ⟨s4, g4, f4'⟩ : ∃ s, (∀ W : World, (Op.stringOp .add a' ⟨#[32]⟩).run Try.prog W = .ok (.string s) W) ∧ word s = false := ⟨_, fun W => run_string_add_sum W a' _ (by show a'.size + 1 ≤ _; omega), word_blank a'⟩
  have wr : IntKind.i64.wrap ((a'.size : Int) + b'.size) = a'.size + b'.size := by rw [IntKind.wrap_i64]; omega
  have f3 := Lib.hid f3'
  have f4 := Lib.hid f4'
  have f1h := Lib.hid f1'
  have f2h := Lib.hid f2'
  clear f1' f2' f3' f4'
  go_enter Try.func6, Try.ntmps6
  cases hx' : word a'
  · have hx := Lib.hid hx'; clear hx'
    go_upto_region 6 with (first | (go_at_call 11; clear tok0; refine (shown_calls w).mono ?_; rintro e1 w1 ⟨rfl, b1⟩; have bb1 := b1; have tok1 : True := trivial) | (go_at_call 17; clear tok1; refine (word_calls a' w1).mono ?_; rintro e2 w2 ⟨rfl, b2⟩; rw [hx.out]; have bb2 := below_trans bb1 b2; have tok2 : True := trivial) | (go_at_call 17; clear tok2; refine (word_calls b' w2).mono ?_; rintro e3 w3 ⟨rfl, b3⟩; have bb3 := below_trans bb2 b3; have tok3 : True := trivial))
    refine wl_region ?_
    repeat (first | (refine ws_off (by rfl) ?_; simp only [Act.put, List.setIfInBounds_toArray, List.set_cons_zero, List.set_cons_succ]) | (refine ws_val (v := ?_) (by rfl) ?_ ?_; rotate_left; (go_simp; with_reducible rfl); simp only [Act.put, List.setIfInBounds_toArray, List.set_cons_zero, List.set_cons_succ]))
    refine ws_nil ?_
    go_wp2
    go_ret
    exact ⟨rfl, bb3⟩
  · have hx := Lib.hid hx'
    have f2 := Lib.hid (f2h.out hx')
    have f5 := Lib.hid ((right_nameE a').trans hx')
    by_cases lt : a'.size < 40
    all_goals
      have lt' : (decide (a'.size < 40)) = _ := (by first | exact decide_eq_true lt | exact decide_eq_false lt)
      rw [lt'] at f2
      have li : ((a'.size : Int) < 40) = _ := (by first | exact eq_true (by omega) | exact eq_false (by omega))
      cases hy' : word b'
      · have hy := Lib.hid hy'
        clear hx' hy' lt'
        go_upto_region 6 with (first | (go_at_call 11; clear tok0; refine (shown_calls w).mono ?_; rintro e1 w1 ⟨rfl, b1⟩; have bb1 := b1; have tok1 : True := trivial) | (go_at_call 17; clear tok1; refine (word_calls a' w1).mono ?_; rintro e2 w2 ⟨rfl, b2⟩; rw [hx.out]; have bb2 := below_trans bb1 b2; have tok2 : True := trivial) | (go_at_call 17; clear tok2; refine (word_calls b' w2).mono ?_; rintro e3 w3 ⟨rfl, b3⟩; rw [hy.out]; have bb3 := below_trans bb2 b3; have tok3 : True := trivial))
        refine wl_region ?_
        repeat (first | (refine ws_off (by rfl) ?_; simp only [Act.put, List.setIfInBounds_toArray, List.set_cons_zero, List.set_cons_succ]) | (clear tok3; refine ws_bool1 17 (.string (s2)) ?_ rfl ?_ ?_ (word_is f2.out _) ?_; rfl; rfl; exact (enters Try.func17 rfl rfl); intro w4 b4; have bb4 := below_trans bb3 b4; have tok4 : True := trivial; simp only [Act.put, List.setIfInBounds_toArray, List.set_cons_zero, List.set_cons_succ]) | (clear tok4; refine ws_bool1 17 (.string (s3)) ?_ rfl ?_ ?_ (word_is f3.out _) ?_; rfl; rfl; exact (enters Try.func17 rfl rfl); intro w5 b5; have bb5 := below_trans bb4 b5; have tok5 : True := trivial; simp only [Act.put, List.setIfInBounds_toArray, List.set_cons_zero, List.set_cons_succ]) | (clear tok5; refine ws_bool1 17 (.string (s4)) ?_ rfl ?_ ?_ (word_is f4.out _) ?_; rfl; rfl; exact (enters Try.func17 rfl rfl); intro w6 b6; have bb6 := below_trans bb5 b6; have tok6 : True := trivial; simp only [Act.put, List.setIfInBounds_toArray, List.set_cons_zero, List.set_cons_succ]) | (clear tok6; refine ws_expr1 27 (.string a') ?_ rfl ?_ ?_ (name_calls a' _) ?_; rfl; rfl; exact (enters Try.func27 rfl rfl); intro cs7 w7 r7 b7; have bb7 := below_trans bb6 b7; have tok7 : True := trivial; simp only [Act.put, List.setIfInBounds_toArray, List.set_cons_zero, List.set_cons_succ]) | (clear tok7; refine ws_bool1 19 (.agg cs7.toArray) ?_ rfl ?_ ?_ (right_is f5.out _ r7) ?_; rfl; rfl; exact (enters Try.func19 rfl rfl); intro w8 b8; have bb8 := below_trans bb7 b8; have tok8 : True := trivial; simp only [Act.put, List.setIfInBounds_toArray, List.set_cons_zero, List.set_cons_succ]) | (refine ws_val (v := ?_) (by rfl) ?_ ?_; rotate_left; (go_simp; with_reducible rfl); simp only [Act.put, List.setIfInBounds_toArray, List.set_cons_zero, List.set_cons_succ]))
        refine ws_nil ?_
        go_wp2
        go_ret
        exact ⟨rfl, bb8⟩
      · have hy := Lib.hid hy'
        have f1 := Lib.hid (f1h.out hx' hy')
        clear hx' hy' lt'
        by_cases c1 : a'.size + b'.size ≤ 40
        all_goals
          have c1' : (decide (a'.size + b'.size ≤ 40)) = _ := (by first | exact decide_eq_true c1 | exact decide_eq_false c1)
          rw [c1'] at f1
          have ci : ((a'.size : Int) + b'.size ≤ 40) = _ := (by first | exact eq_true (by omega) | exact eq_false (by omega))
          clear c1'
          go_upto_region 6 with (first | (go_at_call 11; clear tok0; refine (shown_calls w).mono ?_; rintro e1 w1 ⟨rfl, b1⟩; have bb1 := b1; have tok1 : True := trivial) | (go_at_call 17; clear tok1; refine (word_calls a' w1).mono ?_; rintro e2 w2 ⟨rfl, b2⟩; rw [hx.out]; have bb2 := below_trans bb1 b2; have tok2 : True := trivial) | (go_at_call 17; clear tok2; refine (word_calls b' w2).mono ?_; rintro e3 w3 ⟨rfl, b3⟩; rw [hy.out]; have bb3 := below_trans bb2 b3; have tok3 : True := trivial))
          refine wl_region ?_
          repeat (first | (refine ws_off (by rfl) ?_; simp only [Act.put, List.setIfInBounds_toArray, List.set_cons_zero, List.set_cons_succ]) | (clear tok3; refine ws_bool1 17 (.string (s1)) ?_ rfl ?_ ?_ (word_is f1.out _) ?_; rfl; rfl; exact (enters Try.func17 rfl rfl); intro w4 b4; have bb4 := below_trans bb3 b4; have tok4 : True := trivial; simp only [Act.put, List.setIfInBounds_toArray, List.set_cons_zero, List.set_cons_succ]) | (clear tok4; refine ws_bool1 17 (.string (s2)) ?_ rfl ?_ ?_ (word_is f2.out _) ?_; rfl; rfl; exact (enters Try.func17 rfl rfl); intro w5 b5; have bb5 := below_trans bb4 b5; have tok5 : True := trivial; simp only [Act.put, List.setIfInBounds_toArray, List.set_cons_zero, List.set_cons_succ]) | (clear tok5; refine ws_bool1 17 (.string (s3)) ?_ rfl ?_ ?_ (word_is f3.out _) ?_; rfl; rfl; exact (enters Try.func17 rfl rfl); intro w6 b6; have bb6 := below_trans bb5 b6; have tok6 : True := trivial; simp only [Act.put, List.setIfInBounds_toArray, List.set_cons_zero, List.set_cons_succ]) | (clear tok6; refine ws_bool1 17 (.string (s4)) ?_ rfl ?_ ?_ (word_is f4.out _) ?_; rfl; rfl; exact (enters Try.func17 rfl rfl); intro w7 b7; have bb7 := below_trans bb6 b7; have tok7 : True := trivial; simp only [Act.put, List.setIfInBounds_toArray, List.set_cons_zero, List.set_cons_succ]) | (clear tok7; refine ws_expr1 27 (.string a') ?_ rfl ?_ ?_ (name_calls a' _) ?_; rfl; rfl; exact (enters Try.func27 rfl rfl); intro cs8 w8 r8 b8; have bb8 := below_trans bb7 b8; have tok8 : True := trivial; simp only [Act.put, List.setIfInBounds_toArray, List.set_cons_zero, List.set_cons_succ]) | (clear tok8; refine ws_bool1 19 (.agg cs8.toArray) ?_ rfl ?_ ?_ (right_is f5.out _ r8) ?_; rfl; rfl; exact (enters Try.func19 rfl rfl); intro w9 b9; have bb9 := below_trans bb8 b9; have tok9 : True := trivial; simp only [Act.put, List.setIfInBounds_toArray, List.set_cons_zero, List.set_cons_succ]) | (refine ws_val (v := ?_) (by rfl) ?_ ?_; rotate_left; (go_simp; with_reducible rfl); simp only [Act.put, List.setIfInBounds_toArray, List.set_cons_zero, List.set_cons_succ]))
          refine ws_nil ?_
          go_wp2
          go_ret
          exact ⟨rfl, bb9⟩
end Go.Proofs.Ytljkfobgbjnilaa
