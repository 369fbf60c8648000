/- The walks of the law's count and nots. -/
import Derived.Test.YtljkfobgbjnilaaH7
namespace Go.Proofs.Ytljkfobgbjnilaa
open Go.RowKit

set_option maxHeartbeats 1000000 in
set_option maxRecDepth 100000 in
theorem count_calls {S : Nat → Prop} {w0 : World} {e : E} {cs : List Value} (h : RE S w0 e cs) : ∀ w, Below w0.heap.size w0 w → Calls Try.prog 12 #[.agg cs.toArray] w (RInt (count e) w) := by
  induction h with
  | mk e cs A c css len c0 c1 c2 c3 c4 c5 c6 cap big nil kid ok mem ih =>
  intro w hb
  have hl : LE S w0 e.kids A c css := ⟨cap, big, nil, kid, ok, mem⟩
  have k6 := (cell_new w cs 28 (0, 0) 6).trans c6
  have hb1 : Below w.heap.size w (w.alloc (.cells cs.toArray 28)) := below_new (Below.refl _ _) _
  have hih := Lib.hid ih
  have hl1 := Lib.hid hl
  have hst : Hid (count e = min 301 (1 + ((e.kids.drop 0).map nodes).sum)) := by show _ = _; unfold count; rw [nodes_eq, List.drop_zero]
  clear c0 c1 c2 c3 c4 c5 c6 cap nil kid ok mem ih hl
  generalize hW : w.alloc (.cells cs.toArray 28) = W at *
  generalize count e = C at *
  go_enter Try.func12, Try.ntmps12
  go_wp2
  go_loopw [3, 4] (fun n i wr => ∃ k m : Nat, k ≤ e.kids.length ∧ i = .int .i64 k ∧ n = .int .i64 m ∧ m ≤ 601 ∧ Hid (C = min 301 (m + ((e.kids.drop k).map nodes).sum)) ∧ Below W.heap.size W wr) (fun _ i _ => e.kids.length - (intOf i).toNat)
  case atStart => exact ⟨0, 1, Nat.zero_le _, rfl, rfl, by omega, hst, Below.refl _ _⟩
  case round =>
    obtain ⟨k, m, hk, rfl, rfl, hm6, hq, hbr⟩ := hrel
    clear hst
    have k6' := cell_kept hbr k6
    have hbw := below_trans hb1 hbr
    by_cases hlt : k < e.kids.length
    · by_cases hm : m ≤ 300
      · obtain ⟨q, ad, hkq, rfl, hre, hcell, hlenk⟩ := (hl1.out.mono (below_trans hb hbw)).at_ hlt
        have H := Lib.hid (hih.out k q hkq wr (below_trans hb hbw))
        have hQ : Hid (C = min 301 (m + count q + ((e.kids.drop (k + 1)).map nodes).sum)) := by
          show _ = _
          rw [hq.out, drop_get hkq, List.map_cons, List.sum_cons]
          unfold count
          omega
        have hc : count q ≤ 301 := by unfold count; omega
        clear hq hl1 hih hre k6
        generalize count q = r at *
        go_wp2_with (first | (refine load_cells rfl 28 _ rfl _ rfl (css k) hcell _ Try.underlying28 rfl 7 (by kernel_rfl) hlenk ?_) | (go_at_call 12; (with_reducible refine H.out.mono ?_); rintro e2 w2 ⟨rfl, hb2⟩; have hb3 := below_trans hbr hb2))
        go_roundw
        case rel => exact ⟨k + 1, m + r, by omega, by go_num, by go_num, by omega, hQ, hb3⟩
        case measure => simp [intOf]; omega
      · have hC : Hid (C = 301) := by show _ = _; rw [hq.out]; omega
        clear hq hl1 hih
        go_wp2
        go_ret
        exact ⟨ret_int (by rw [hC.out]; omega), hbw⟩
    · have hC : Hid (C = min 301 m) := by show _ = _; rw [hq.out, List.drop_of_length_le (by omega)]; simp
      clear hq hl1 hih
      go_wp2
      go_ret
      exact ⟨ret_int (by rw [hC.out]; omega), hbw⟩

set_option maxHeartbeats 1000000 in
set_option maxRecDepth 100000 in
theorem nots_calls {S : Nat → Prop} {w0 : World} {e : E} {cs : List Value} (h : RE S w0 e cs) : ∀ w, Below w0.heap.size w0 w → Calls Try.prog 28 #[.agg cs.toArray] w (RBool (notsE e) w) := by
  induction h with
  | mk e cs A c css len c0 c1 c2 c3 c4 c5 c6 cap big nil kid ok mem ih =>
  intro w hb
  have hl : LE S w0 e.kids A c css := ⟨cap, big, nil, kid, ok, mem⟩
  have k0 := (cell_new w cs 28 (0, 0) 0).trans c0
  have k6 := (cell_new w cs 28 (0, 0) 6).trans c6
  have hb1 : Below w.heap.size w (w.alloc (.cells cs.toArray 28)) := below_new (Below.refl _ _) _
  have hih := Lib.hid ih
  have hl1 := Lib.hid hl
  have hst := Lib.hid (notsE_eq e)
  clear c0 c1 c2 c3 c4 c5 c6 cap nil kid ok mem ih hl
  generalize hW : w.alloc (.cells cs.toArray 28) = W at *
  generalize notsE e = C at *
  go_enter Try.func28, Try.ntmps28
  by_cases hk6 : e.kind = 6
  · have hkb : (e.kind == 6) = true := by rw [beq_iff_eq]; exact hk6
    have hC : Hid (C = true) := by show _ = _; rw [hst.out, hkb]; rfl
    clear hk6 hih hl1 hst
    go_wp2
    go_ret
    exact ⟨ret_bool hC.out.symm, hb1⟩
  · have hkb : (e.kind == 6) = false := by rw [beq_eq_false_iff_ne]; exact hk6
    have hst2 : Hid (C = (e.kids.drop 0).any notsE) := by show _ = _; rw [hst.out, hkb, List.drop_zero]; rfl
    clear hk6 hst
    go_wp2
    go_loopw [3, 4] (fun i b wr => ∃ k : Nat, k ≤ e.kids.length ∧ i = .int .i64 k ∧ Hid (C = (e.kids.drop k).any notsE) ∧ Below W.heap.size W wr) (fun i _ _ => e.kids.length - (intOf i).toNat)
    case atStart => exact ⟨0, Nat.zero_le _, rfl, hst2, Below.refl _ _⟩
    case round =>
      obtain ⟨k, hk, rfl, hq, hbr⟩ := hrel
      clear hst2
      have k6' := cell_kept hbr k6
      have hbw := below_trans hb1 hbr
      by_cases hlt : k < e.kids.length
      · obtain ⟨q, ad, hkq, rfl, hre, hcell, hlenk⟩ := (hl1.out.mono (below_trans hb hbw)).at_ hlt
        have H := Lib.hid (hih.out k q hkq wr (below_trans hb hbw))
        have hQ : Hid (C = (notsE q || (e.kids.drop (k + 1)).any notsE)) := by
          show _ = _
          rw [hq.out, drop_get hkq, List.any_cons]
        clear hq hl1 hih hre k6
        cases hn : notsE q
        · have hQ' : Hid (C = (e.kids.drop (k + 1)).any notsE) := by show _ = _; rw [hQ.out, hn]; rfl
          have hn' := Lib.hid hn; clear hn hQ
          go_wp2_with (first | (refine load_cells rfl 28 _ rfl _ rfl (css k) hcell _ Try.underlying28 rfl 7 (by kernel_rfl) hlenk ?_) | (go_at_call 28; (with_reducible refine H.out.mono ?_); rintro e2 w2 ⟨rfl, hb2⟩; rw [hn'.out]; have hb3 := below_trans hbr hb2))
          go_roundw
          case rel => exact ⟨k + 1, by omega, by go_num, hQ', hb3⟩
          case measure => simp [intOf]; omega
        · have hC : Hid (C = true) := by show _ = _; rw [hQ.out, hn]; rfl
          have hn' := Lib.hid hn; clear hn hQ
          go_wp2_with (first | (refine load_cells rfl 28 _ rfl _ rfl (css k) hcell _ Try.underlying28 rfl 7 (by kernel_rfl) hlenk ?_) | (go_at_call 28; (with_reducible refine H.out.mono ?_); rintro e2 w2 ⟨rfl, hb2⟩; rw [hn'.out]; have hb3 := below_trans hbr hb2))
          go_ret
          exact ⟨ret_bool hC.out.symm, below_trans hb1 hb3⟩
      · have hC : Hid (C = false) := by show _ = _; rw [hq.out, List.drop_of_length_le (by omega)]; rfl
        clear hq hl1 hih
        go_wp2
        go_ret
        exact ⟨ret_bool hC.out.symm, hbw⟩
end Go.Proofs.Ytljkfobgbjnilaa
