/- The walk of the law LabelAlone. -/
import Derived.Test.YtljkfobgbjnilaaHX
namespace Go.Proofs.Ytljkfobgbjnilaa
open Go.RowKit

def anyE : E := ⟨5, ⟨#[]⟩, zVal, []⟩
theorem has_anyE (l : List ByteArray) : hasL l anyE = decide (0 < l.length) := by
  have h1 : labelRight anyE = true := by
    unfold labelRight
    rw [if_neg (by decide), termS 49]
    show ((0 == 0) && bareV zVal && (false == word ⟨#[]⟩) && (false || emptyS ⟨#[]⟩) && true) = true
    rw [bare_zero, word_nil, emptyS_nil]; rfl
  unfold hasL
  rw [h1, holdsN, if_neg (by decide), if_pos (show anyE.kind = 5 from rfl)]
  rfl
theorem any_same (l : List ByteArray) (s : ByteArray) : l.any (sameS s) = inS l s := by
  unfold inS
  congr 1
  funext q
  exact sameS_comm s q
theorem sl_take {w : World} {l : List ByteArray} {A : Option Addr} {c : Nat} (h : SW w l A c) (n : Nat) : SW w (l.take n) A c :=
  ⟨by have := h.cap; rw [List.length_take]; omega, by have := h.big; rw [List.length_take]; omega, fun ha => by rw [h.nil ha, List.take_nil], (fun a ha h0 => h.ok a ha (by rw [List.length_take] at h0; omega)),
   fun a ha i s hs => h.mem a ha i s (by rw [List.getElem?_take] at hs; split at hs; exact hs; cases hs)⟩

set_option maxHeartbeats 4000000 in
set_option maxRecDepth 100000 in
theorem labelAlone_walk (w : World) {l : List ByteArray} {A : Option Addr} {c : Nat} (hl : SW w l A c) {s : ByteArray} (_hs : s.size ≤ 140737488351232) : Calls Try.prog 10 #[.slice A l.length c, .string s] w (RBool true w) := by
  have tok0 : True := trivial
  have hl' := sl_take hl 30
  have hm : (min (l.length : Int) 30).toNat = (l.take 30).length := by rw [List.length_take]; omega
  have hbig := hl.big
  have hcap := hl.cap
  have hll : (l.take 30).length ≤ 30 := by rw [List.length_take]; omega
  generalize l.take 30 = l' at *
  clear hl
  generalize l.length = ln at *
  go_enter Try.func10, Try.ntmps10
  cases hw' : word s
  · have hw := Lib.hid hw'
    have h1 := Lib.hid ((right_nameE s).trans hw')
    have h2 : Hid (hasL l' (nameE s) = false) := by show _ = _; rw [has_nameE, hw']; rfl
    clear hw'
    go_upto_region 4 with (first | (go_at_call 11; clear tok0; refine (shown_calls w).mono ?_; rintro e1 w1 ⟨rfl, b1⟩; have tok1 : True := trivial) | (go_at_call 17; clear tok1; refine (word_is hw.out w1).mono ?_; rintro e2 w2 ⟨rfl, b2⟩; have bb2 := below_trans b1 b2; have q_2 := hl'.upW bb2; have tok20 : True := trivial))
    refine wl_region ?_
    repeat (first | (refine ws_off (by rfl) ?_; simp only [Act.put, List.setIfInBounds_toArray, List.set_cons_zero, List.set_cons_succ]) | (clear tok20; refine ws_expr1 27 (.string s) ?_ rfl ?_ ?_ (name_calls s _) ?_; rfl; rfl; exact (enters Try.func27 rfl rfl); intro cs_a w3 r_a b3; have bb3 := below_trans bb2 b3; have q_3 := q_2.upW b3; have tok21 : True := trivial; have a_3 := r_a; simp only [Act.put, List.setIfInBounds_toArray, List.set_cons_zero, List.set_cons_succ]) | (clear tok21; refine ws_bool1 19 ((.agg cs_a.toArray)) ?_ rfl ?_ ?_ (right_is h1.out _ a_3) ?_; rfl; rfl; exact (enters Try.func19 rfl rfl); intro w4 b4; have bb4 := below_trans bb3 b4; have q_4 := q_3.upW b4; have a_4 := a_3.upW b4; have tok22 : True := trivial; simp only [Act.put, List.setIfInBounds_toArray, List.set_cons_zero, List.set_cons_succ]) | (clear tok22; refine ws_expr1 27 (.string s) ?_ rfl ?_ ?_ (name_calls s _) ?_; rfl; rfl; exact (enters Try.func27 rfl rfl); intro cs_d w5 r_d b5; have bb5 := below_trans bb4 b5; have q_5 := q_4.upW b5; have tok23 : True := trivial; have d_5 := r_d; simp only [Act.put, List.setIfInBounds_toArray, List.set_cons_zero, List.set_cons_succ]) | (clear tok23; refine ws_bool2 13 ((.slice A l'.length c)) ((.agg cs_d.toArray)) ?_ rfl ?_ ?_ ?_ (has_is h2.out _ d_5 q_5) ?_; rfl; rfl; rfl; exact (enters Try.func13 rfl rfl); intro w6 b6; have bb6 := below_trans bb5 b6; have q_6 := q_5.upW b6; have d_6 := d_5.upW b6; have tok24 : True := trivial; simp only [Act.put, List.setIfInBounds_toArray, List.set_cons_zero, List.set_cons_succ]) | (refine ws_val (v := ?_) (by rfl) ?_ ?_; rotate_left; (go_simp; with_reducible rfl); simp only [Act.put, List.setIfInBounds_toArray, List.set_cons_zero, List.set_cons_succ]))
    refine ws_nil ?_
    go_wp2
    go_ret
    exact ⟨rfl, bb6⟩
  · have hw := Lib.hid hw'
    clear hw'
    go_wp2_with (first | (go_at_call 11; clear tok0; refine (shown_calls w).mono ?_; rintro e1 w1 ⟨rfl, b1⟩; have tok1 : True := trivial) | (go_at_call 17; clear tok1; refine (word_is hw.out w1).mono ?_; rintro e2 w2 ⟨rfl, b2⟩; have bb2 := below_trans b1 b2; have q_2 := hl'.upW bb2; have tok20 : True := trivial))
    go_loopw [6, 7] (fun b i wr => ∃ (k : Nat) (x : Bool), k ≤ l'.length ∧ i = .int .i64 k ∧ b = .bool x ∧ Hid (inS l' s = (x || inS (l'.drop k) s)) ∧ wr = w2) (fun _ i _ => l'.length - (intOf i).toNat)
    case atStart => exact ⟨0, false, Nat.zero_le _, rfl, rfl, by show _ = _; simp, rfl⟩
    case round =>
      obtain ⟨k, x, hk, rfl, rfl, hq, rfl⟩ := hrel
      by_cases hlt : k < l'.length
      · obtain ⟨q, ad, hkq, rfl, hcell⟩ := q_2.at_ hlt
        have hQ : inS l' s = (x || (sameS q s || inS (l'.drop (k + 1)) s)) := by rw [hq.out, drop_get hkq]; rfl
        clear hq
        cases x
        · cases hs : sameS q s
          all_goals
            have hs' : (q.toList == s.toList) = _ := hs
            rw [hs] at hQ
            have hQ' := Lib.hid hQ
            clear hQ hs
            go_wp2
            exact ⟨⟨k + 1, _, by omega, by go_num, rfl, by show _ = _; rw [hQ'.out]; simp, trivial⟩, by simp [intOf]; omega⟩
        · have hQ' := Lib.hid hQ
          clear hQ
          go_wp2
          exact ⟨⟨k + 1, _, by omega, by go_num, rfl, by show _ = _; rw [hQ'.out]; simp, trivial⟩, by simp [intOf]; omega⟩
      · have hx : inS l' s = x := by rw [hq.out, List.drop_of_length_le (by omega)]; simp [inS]
        subst hx
        clear hq
        have h1' : hasL l' (nameE s) = inS l' s := by rw [has_nameE, hw.out]; exact any_same l' s
        have h2' : hasL l' (notE (nameE s)) = !inS l' s := by rw [has_notE, term_nameE 48, hw.out, holds_nameE 48]; show (!(l'.any (sameS s))) = _; rw [any_same]
        have h3' : hasL l' anyE = decide (0 < l'.length) := has_anyE l'
        have h4 : Hid (hasL l' (andE (nameE s) (notE (nameE s))) = false) := by show _ = _; rw [has_andE, term_nameE 48, term_notE 48, term_nameE 47, hw.out, holds_nameE 48, holds_notE 48, holds_nameE 47]; cases l'.any (sameS s) <;> rfl
        have h5 : Hid (hasL l' (orE (notE (nameE s)) (nameE s)) = true) := by show _ = _; rw [has_orE, term_nameE 48, term_notE 48, term_nameE 47, hw.out, holds_nameE 48, holds_notE 48, holds_nameE 47]; cases l'.any (sameS s) <;> rfl
        generalize inS l' s = y at *
        have p' : decide ((0 : Int) < (l'.length : Int)) = decide (0 < l'.length) := by rw [decide_eq_decide]; omega
        cases hp : decide (0 < l'.length)
        all_goals
          rw [hp] at h3' p'
          have z2 : (0 < l'.length) = _ := (by first | exact eq_true (of_decide_eq_true hp) | exact eq_false (of_decide_eq_false hp))
          have z1 : (l' = []) = _ := (by first | exact eq_false (fun h => by have := of_decide_eq_true hp; rw [h] at this; simp at this) | exact eq_true (List.eq_nil_of_length_eq_zero (by have := of_decide_eq_false hp; omega)))
          have h3 := Lib.hid h3'
          clear h3' hp
          cases y
          all_goals
            have h1 := Lib.hid h1'
            have h2 := Lib.hid h2'
            clear h1' h2'
            go_upto_region 11 with (refine store_new rfl 28 _ _ rfl rfl _ _ _ rfl (cellsE anyE none 0) rfl rfl 7 (by kernel_rfl) rfl rfl (cellsE_one _ _ _) ?_)
            have b3 := below_new (Below.refl _ wr) (.cells (cellsE anyE none 0).toArray 28)
            have bb3 := below_trans bb2 b3
            have q_3 := q_2.upW b3
            have y_3 := cells_new wr (cellsE anyE none 0) 28 (0, 0)
            refine wl_region ?_
            repeat (first | (refine ws_off (by rfl) ?_; simp only [Act.put, List.setIfInBounds_toArray, List.set_cons_zero, List.set_cons_succ]) | (clear tok20; refine ws_expr1 27 (.string s) ?_ rfl ?_ ?_ (name_calls s _) ?_; rfl; rfl; exact (enters Try.func27 rfl rfl); intro cs_a w4 r_a b4; have bb4 := below_trans bb3 b4; have q_4 := q_3.upW b4; have y_4 := y_3.mono b4; have tok21 : True := trivial; have a_4 := r_a; simp only [Act.put, List.setIfInBounds_toArray, List.set_cons_zero, List.set_cons_succ]) | (clear tok21; refine ws_bool2 13 ((.slice A l'.length c)) ((.agg cs_a.toArray)) ?_ rfl ?_ ?_ ?_ (has_is h1.out _ a_4 q_4) ?_; rfl; rfl; rfl; exact (enters Try.func13 rfl rfl); intro w5 b5; have bb5 := below_trans bb4 b5; have q_5 := q_4.upW b5; have y_5 := y_4.mono b5; have a_5 := a_4.upW b5; have tok22 : True := trivial; simp only [Act.put, List.setIfInBounds_toArray, List.set_cons_zero, List.set_cons_succ]) | (clear tok22; refine ws_expr1 27 (.string s) ?_ rfl ?_ ?_ (name_calls s _) ?_; rfl; rfl; exact (enters Try.func27 rfl rfl); intro cs_d w6 r_d b6; have bb6 := below_trans bb5 b6; have q_6 := q_5.upW b6; have y_6 := y_5.mono b6; have tok23 : True := trivial; have d_6 := r_d; simp only [Act.put, List.setIfInBounds_toArray, List.set_cons_zero, List.set_cons_succ]) | (clear tok23; refine ws_expr1 25 (.agg cs_d.toArray) ?_ rfl ?_ ?_ (not_calls _ d_6) ?_; rfl; rfl; exact (enters Try.func25 rfl rfl); intro cs_e w7 r_e b7; have bb7 := below_trans bb6 b7; have q_7 := q_6.upW b7; have y_7 := y_6.mono b7; have d_7 := d_6.upW b7; have tok24 : True := trivial; have e_7 := r_e; simp only [Act.put, List.setIfInBounds_toArray, List.set_cons_zero, List.set_cons_succ]) | (clear tok24; refine ws_bool2 13 ((.slice A l'.length c)) ((.agg cs_e.toArray)) ?_ rfl ?_ ?_ ?_ (has_is h2.out _ e_7 q_7) ?_; rfl; rfl; rfl; exact (enters Try.func13 rfl rfl); intro w8 b8; have bb8 := below_trans bb7 b8; have q_8 := q_7.upW b8; have y_8 := y_7.mono b8; have d_8 := d_7.upW b8; have e_8 := e_7.upW b8; have tok25 : True := trivial; simp only [Act.put, List.setIfInBounds_toArray, List.set_cons_zero, List.set_cons_succ]) | (refine ws_load_cells (by rfl) 28 _ rfl _ rfl (cellsE anyE none 0) y_8 _ Try.underlying28 rfl 7 (by kernel_rfl) rfl ?_; simp only [Act.put, List.setIfInBounds_toArray, List.set_cons_zero, List.set_cons_succ]) | (clear tok25; refine ws_bool2 13 ((.slice A l'.length c)) ((.agg (cellsE anyE none 0).toArray)) ?_ rfl ?_ ?_ ?_ (has_is h3.out _ (re_leaf _ anyE rfl) q_8) ?_; rfl; rfl; rfl; exact (enters Try.func13 rfl rfl); intro w9 b9; have bb9 := below_trans bb8 b9; have q_9 := q_8.upW b9; have y_9 := y_8.mono b9; have tok26 : True := trivial; simp only [Act.put, List.setIfInBounds_toArray, List.set_cons_zero, List.set_cons_succ]) | (clear tok26; refine ws_expr1 27 (.string s) ?_ rfl ?_ ?_ (name_calls s _) ?_; rfl; rfl; exact (enters Try.func27 rfl rfl); intro cs_f w10 r_f b10; have bb10 := below_trans bb9 b10; have q_10 := q_9.upW b10; have y_10 := y_9.mono b10; have tok27 : True := trivial; have f_10 := r_f; simp only [Act.put, List.setIfInBounds_toArray, List.set_cons_zero, List.set_cons_succ]) | (clear tok27; refine ws_expr1 27 (.string s) ?_ rfl ?_ ?_ (name_calls s _) ?_; rfl; rfl; exact (enters Try.func27 rfl rfl); intro cs_g w11 r_g b11; have bb11 := below_trans bb10 b11; have q_11 := q_10.upW b11; have y_11 := y_10.mono b11; have f_11 := f_10.upW b11; have tok28 : True := trivial; have g_11 := r_g; simp only [Act.put, List.setIfInBounds_toArray, List.set_cons_zero, List.set_cons_succ]) | (clear tok28; refine ws_expr1 25 (.agg cs_g.toArray) ?_ rfl ?_ ?_ (not_calls _ g_11) ?_; rfl; rfl; exact (enters Try.func25 rfl rfl); intro cs_i w12 r_i b12; have bb12 := below_trans bb11 b12; have q_12 := q_11.upW b12; have y_12 := y_11.mono b12; have f_12 := f_11.upW b12; have g_12 := g_11.upW b12; have tok29 : True := trivial; have i_12 := r_i; simp only [Act.put, List.setIfInBounds_toArray, List.set_cons_zero, List.set_cons_succ]) | (clear tok29; refine ws_expr2 23 (.agg cs_f.toArray) (.agg cs_i.toArray) ?_ rfl ?_ ?_ ?_ (and_calls _ f_12 i_12) ?_; rfl; rfl; rfl; exact (enters Try.func23 rfl rfl); intro cs_j w13 r_j b13; have bb13 := below_trans bb12 b13; have q_13 := q_12.upW b13; have y_13 := y_12.mono b13; have f_13 := f_12.upW b13; have g_13 := g_12.upW b13; have i_13 := i_12.upW b13; have tok30 : True := trivial; have j_13 := r_j; simp only [Act.put, List.setIfInBounds_toArray, List.set_cons_zero, List.set_cons_succ]) | (clear tok30; refine ws_bool2 13 ((.slice A l'.length c)) ((.agg cs_j.toArray)) ?_ rfl ?_ ?_ ?_ (has_is h4.out _ j_13 q_13) ?_; rfl; rfl; rfl; exact (enters Try.func13 rfl rfl); intro w14 b14; have bb14 := below_trans bb13 b14; have q_14 := q_13.upW b14; have y_14 := y_13.mono b14; have f_14 := f_13.upW b14; have g_14 := g_13.upW b14; have i_14 := i_13.upW b14; have j_14 := j_13.upW b14; have tok31 : True := trivial; simp only [Act.put, List.setIfInBounds_toArray, List.set_cons_zero, List.set_cons_succ]) | (clear tok31; refine ws_expr1 27 (.string s) ?_ rfl ?_ ?_ (name_calls s _) ?_; rfl; rfl; exact (enters Try.func27 rfl rfl); intro cs_k w15 r_k b15; have bb15 := below_trans bb14 b15; have q_15 := q_14.upW b15; have y_15 := y_14.mono b15; have tok32 : True := trivial; have k_15 := r_k; simp only [Act.put, List.setIfInBounds_toArray, List.set_cons_zero, List.set_cons_succ]) | (clear tok32; refine ws_expr1 25 (.agg cs_k.toArray) ?_ rfl ?_ ?_ (not_calls _ k_15) ?_; rfl; rfl; exact (enters Try.func25 rfl rfl); intro cs_m w16 r_m b16; have bb16 := below_trans bb15 b16; have q_16 := q_15.upW b16; have y_16 := y_15.mono b16; have k_16 := k_15.upW b16; have tok33 : True := trivial; have m_16 := r_m; simp only [Act.put, List.setIfInBounds_toArray, List.set_cons_zero, List.set_cons_succ]) | (clear tok33; refine ws_expr1 27 (.string s) ?_ rfl ?_ ?_ (name_calls s _) ?_; rfl; rfl; exact (enters Try.func27 rfl rfl); intro cs_o w17 r_o b17; have bb17 := below_trans bb16 b17; have q_17 := q_16.upW b17; have y_17 := y_16.mono b17; have k_17 := k_16.upW b17; have m_17 := m_16.upW b17; have tok34 : True := trivial; have o_17 := r_o; simp only [Act.put, List.setIfInBounds_toArray, List.set_cons_zero, List.set_cons_succ]) | (clear tok34; refine ws_expr2 24 (.agg cs_m.toArray) (.agg cs_o.toArray) ?_ rfl ?_ ?_ ?_ (or_calls _ m_17 o_17) ?_; rfl; rfl; rfl; exact (enters Try.func24 rfl rfl); intro cs_t w18 r_t b18; have bb18 := below_trans bb17 b18; have q_18 := q_17.upW b18; have y_18 := y_17.mono b18; have k_18 := k_17.upW b18; have m_18 := m_17.upW b18; have o_18 := o_17.upW b18; have tok35 : True := trivial; have t_18 := r_t; simp only [Act.put, List.setIfInBounds_toArray, List.set_cons_zero, List.set_cons_succ]) | (clear tok35; refine ws_bool2 13 ((.slice A l'.length c)) ((.agg cs_t.toArray)) ?_ rfl ?_ ?_ ?_ (has_is h5.out _ t_18 q_18) ?_; rfl; rfl; rfl; exact (enters Try.func13 rfl rfl); intro w19 b19; have bb19 := below_trans bb18 b19; have q_19 := q_18.upW b19; have y_19 := y_18.mono b19; have k_19 := k_18.upW b19; have m_19 := m_18.upW b19; have o_19 := o_18.upW b19; have t_19 := t_18.upW b19; have tok36 : True := trivial; simp only [Act.put, List.setIfInBounds_toArray, List.set_cons_zero, List.set_cons_succ]) | (refine ws_val (v := ?_) (by rfl) ?_ ?_; rotate_left; (go_simp; with_reducible rfl); simp only [Act.put, List.setIfInBounds_toArray, List.set_cons_zero, List.set_cons_succ]))
            refine ws_nil ?_
            go_wp2
            go_ret
            exact ⟨rfl, bb19⟩
end Go.Proofs.Ytljkfobgbjnilaa
