/- The walk of label.names: a map that takes all names of a term. -/
import Derived.Test.YtljkfobgbjnilaaH4
import Derived.Maps.OwnSet
import Derived.Sort.KeysCollected
namespace Go.Proofs.Ytljkfobgbjnilaa
open Go.RowKit Go.Maps

theorem RE.grown {S : Nat → Prop} {w w' : World} {e : E} {cs : List Value} (h : RE S w e cs) {b : Nat} (hb : w.grownBy w' (some b)) (hne : ∀ k, S k → k ≠ b) : RE S w' e cs :=
  h.move (fun _ h => h) fun a _ hS hc => hb.cell hc (fun he => hne _ hS (by simpa using he))
theorem LE.grown {S : Nat → Prop} {w w' : World} {l : List E} {A : Option Addr} {c : Nat} {css : Nat → List Value} (h : LE S w l A c css) {b : Nat} (hb : w.grownBy w' (some b)) (hne : ∀ k, S k → k ≠ b) : LE S w' l A c css :=
  ⟨h.cap, h.big, h.nil, fun i q hq => (h.kid i q hq).grown hb hne, h.ok, fun a ha i hi => (h.mem a ha i hi).move fun a' _ hbl hc => hb.cell hc (fun he => hne _ (h.ok a ha (by omega)) (by rw [← hbl]; simpa using he))⟩
theorem grown_of_below {w w' : World} (h : Below w.heap.size w w') (r : Option Nat) : w.grownBy w' r := ⟨h.os, h.tape, h.output, h.size, fun k hk _ => h.block k hk⟩

def litS (s : ByteArray) : Lit := .string s.data.toList
def setB (acc : List Lit) : DataW Unit := setOf (.lit (.bool true)) acc

theorem term_name {n : Nat} {e : E} (h : term (n + 1) e = true) (hk : e.kind = 4) : e.name.size ≤ 40 := by
  rw [term_succ] at h
  have : arity e.kind = some (0, true) := by rw [hk]; rfl
  rw [this] at h
  simp only [Bool.and_eq_true, List.all_eq_true, beq_iff_eq] at h
  have hw := h.1.1.2.symm
  unfold word at hw
  simp only [Bool.and_eq_true, decide_eq_true_eq] at hw
  exact hw.2.2
theorem okNames_term : ∀ (n : Nat) {e : E}, term n e = true → okNames n e
  | 0, e, h => by rw [term_zero] at h; cases h
  | n + 1, e, h => by
    rw [okNames_succ]
    obtain ⟨_, _, _, _, hq⟩ := arity_of_term h
    exact ⟨fun hk => by have := term_name h hk; omega, fun q hm => okNames_term n (hq q hm)⟩
theorem okNames_right {e : E} (h : labelRight e = true) : okNames 50 e := by
  unfold labelRight at h
  split at h
  · next hk =>
    rw [okNames_succ]
    simp only [Bool.and_eq_true, List.isEmpty_iff] at h
    exact ⟨fun h4 => by omega, fun q hq => by rw [h.2] at hq; cases hq⟩
  · exact okNames_term 50 h
theorem key_str (s : ByteArray) (h : s.size ≤ maxLen) : keyOf Try.prog 9 (.string s) = some (litS s) := by
  simp [keyOf, Try.underlying9, mapKey, h, litS]

set_option maxHeartbeats 1000000 in
set_option maxRecDepth 100000 in
theorem names_calls (n : Nat) : ∀ {S : Nat → Prop} {w0 : World} {e : E} {cs : List Value}, RE S w0 e cs → okNames n e → ∀ b, (∀ k, S k → k ≠ b) → ∀ w, w0.grownBy w (some b) → ∀ acc m, w.ownsMap Try.prog 9 (plainElem Try.prog 4) b m (setB acc) → m + (namesN n e).length < maxLen →
    Calls Try.prog 30 #[.agg cs.toArray, .map (some b)] w (fun e' w' => e' = .returned (.tuple #[]) ∧ w'.ownsMap Try.prog 9 (plainElem Try.prog 4) b (m + (namesN n e).length) (setB (acc ++ (namesN n e).map litS)) ∧ w.grownBy w' (some b)) := by
  induction n with
  | zero => intro S w0 e cs h ht; unfold okNames at ht; exact ht.elim
  | succ n ih =>
    intro S w0 e cs h ht b hne w hg acc m hown hm
    obtain ⟨hnm4, hkt⟩ := okNames_succ n e ▸ ht
    obtain ⟨A, c, css, f, hl⟩ := h.open_
    have hbig := hl.big
    have k0 := (cell_new w cs 28 (0, 0) 0).trans f.c0
    have k1 := (cell_new w cs 28 (0, 0) 1).trans f.c1
    have k6 := (cell_new w cs 28 (0, 0) 6).trans f.c6
    have hb1 : w.grownBy (w.alloc (.cells cs.toArray 28)) (some b) := World.grownBy_alloc w _ _
    have hown1 := hown.alloc (.cells cs.toArray 28)
    have hlt := hown.lt
    have hih := Lib.hid (fun S w0 e cs h => @ih S w0 e cs h); clear ih
    have hl1 := Lib.hid hl
    have hkt' := Lib.hid hkt
    go_enter Try.func30, Try.ntmps30
    by_cases hk4 : e.kind = 4
    · have hkb : (e.kind == 4) = true := by rw [beq_iff_eq]; exact hk4
      have hnm : Hid (namesN (n + 1) e = [e.name] ++ e.kids.flatMap (namesN n)) := by show _ = _; rw [namesN_succ, if_pos hk4]
      have hsz : e.name.size ≤ maxLen := by have := hnm4 hk4; unfold maxLen; omega
      have hkey := key_str e.name hsz
      have hml : m < maxLen := by omega
      have hval : plainElem (H := Unit) Try.prog 4 (.bool true) = some (.lit (.bool true), []) := plainElem_bool Try.underlying4 true
      generalize namesN (n + 1) e = N at *
      clear h f hl hkt hk4 ht hnm4
      go_wp2_with (at_mapUpdate; refine wpList_mapUpdate_own _ rfl _ _ _ 47 rfl 9 4 (string_keyed Try.underlying9) Try.underlying47 _ b m _ rfl hown1 hml _ _ (litS e.name) rfl rfl hkey (.lit (.bool true)) [] hval ?_; intro w1 how1 hgw1; have k61 := hgw1.cell k6 (by simp; omega); have hgS := hb1.trans hgw1)
      go_loopw [15] (fun i wr => ∃ (k : Nat) (d : List ByteArray), k ≤ e.kids.length ∧ i = .int .i64 k ∧ Hid (N = d ++ (e.kids.drop k).flatMap (namesN n)) ∧ wr.ownsMap Try.prog 9 (plainElem Try.prog 4) b (m + d.length) (setB (acc ++ d.map litS)) ∧ w.grownBy wr (some b)) (fun i _ => e.kids.length - (intOf i).toNat)
      case atStart => exact ⟨0, [e.name], Nat.zero_le _, rfl, by show _ = _; rw [hnm.out]; rfl, by rw [List.map_cons, List.map_nil]; unfold setB; rw [setOf_snoc]; exact how1, hgS⟩
      case round =>
        obtain ⟨k, d, hk, rfl, hq, hor, hgr⟩ := hrel
        clear hnm how1 hgw1 k61 hgS
        by_cases hlt' : k < e.kids.length
        · obtain ⟨q, ad, hkq, rfl, hre, hcell, hlenk⟩ := (hl1.out.grown (hg.trans hgr) hne).at_ hlt'
          have hQ : N = (d ++ namesN n q) ++ (e.kids.drop (k + 1)).flatMap (namesN n) := by rw [hq.out, drop_get hkq, List.flatMap_cons, List.append_assoc]
          have hmm : m + d.length + (namesN n q).length < maxLen := by rw [hQ] at hm; simp only [List.length_append] at hm; omega
          have hga : w.grownBy (wr.alloc (.cells (css k).toArray 28)) (some b) := hgr.trans (World.grownBy_alloc _ _ _)
          have H := Lib.hid (hih.out S w0 q (css k) (hl1.out.kid k q hkq) (hkt'.out q (List.mem_of_getElem? hkq)) b hne (wr.alloc (.cells (css k).toArray 28)) (hg.trans hga) (acc ++ d.map litS) (m + d.length) (hor.alloc _) hmm)
          have hQ' := Lib.hid hQ
          have hnew := cells_new wr (css k) 28 (0, 0)
          have hone := hre.one
          clear hQ hq hl1 hkt' hih hre hor hgr hmm
          go_wp2_with (first | (refine load_cells rfl 28 _ rfl _ rfl (css k) hcell _ Try.underlying28 rfl 7 (by kernel_rfl) hlenk ?_) | (refine load_cells rfl 28 _ rfl _ rfl (css k) hnew _ Try.underlying28 rfl 7 (by kernel_rfl) hlenk ?_) | (refine store_new rfl 28 _ _ rfl rfl _ _ _ rfl (css k) rfl rfl 7 (by kernel_rfl) hlenk rfl hone ?_) | (go_at_call 30; (with_reducible refine H.out.mono ?_); rintro e2 w2 ⟨rfl, ho2, hg2⟩))
          go_roundw
          case rel => exact ⟨k + 1, d ++ namesN n q, by omega, by go_num, hQ', by rw [List.length_append, ← Nat.add_assoc, List.map_append, ← List.append_assoc]; exact ho2, hga.trans hg2⟩
          case measure => simp [intOf]; omega
        · have hdr : N = d := by rw [hq.out, List.drop_of_length_le (by omega)]; simp
          clear hq hl1 hkt' hih
          go_wp2
          go_end0
          exact ⟨rfl, hdr ▸ hor, hgr⟩
    · have hkb : (e.kind == 4) = false := by rw [beq_eq_false_iff_ne]; exact hk4
      have hnm : Hid (namesN (n + 1) e = [] ++ e.kids.flatMap (namesN n)) := by show _ = _; rw [namesN_succ, if_neg hk4]
      generalize namesN (n + 1) e = N at *
      clear h f hl hkt hk4 ht hnm4
      go_wp2
      go_loopw [15] (fun i wr => ∃ (k : Nat) (d : List ByteArray), k ≤ e.kids.length ∧ i = .int .i64 k ∧ Hid (N = d ++ (e.kids.drop k).flatMap (namesN n)) ∧ wr.ownsMap Try.prog 9 (plainElem Try.prog 4) b (m + d.length) (setB (acc ++ d.map litS)) ∧ w.grownBy wr (some b)) (fun i _ => e.kids.length - (intOf i).toNat)
      case atStart => exact ⟨0, [], Nat.zero_le _, rfl, by show _ = _; rw [hnm.out]; rfl, by simpa using hown1, hb1⟩
      case round =>
        obtain ⟨k, d, hk, rfl, hq, hor, hgr⟩ := hrel
        clear hnm hown1 hb1
        by_cases hlt' : k < e.kids.length
        · obtain ⟨q, ad, hkq, rfl, hre, hcell, hlenk⟩ := (hl1.out.grown (hg.trans hgr) hne).at_ hlt'
          have hQ : N = (d ++ namesN n q) ++ (e.kids.drop (k + 1)).flatMap (namesN n) := by rw [hq.out, drop_get hkq, List.flatMap_cons, List.append_assoc]
          have hmm : m + d.length + (namesN n q).length < maxLen := by rw [hQ] at hm; simp only [List.length_append] at hm; omega
          have hga : w.grownBy (wr.alloc (.cells (css k).toArray 28)) (some b) := hgr.trans (World.grownBy_alloc _ _ _)
          have H := Lib.hid (hih.out S w0 q (css k) (hl1.out.kid k q hkq) (hkt'.out q (List.mem_of_getElem? hkq)) b hne (wr.alloc (.cells (css k).toArray 28)) (hg.trans hga) (acc ++ d.map litS) (m + d.length) (hor.alloc _) hmm)
          have hQ' := Lib.hid hQ
          have hnew := cells_new wr (css k) 28 (0, 0)
          have hone := hre.one
          clear hQ hq hl1 hkt' hih hre hor hgr hmm
          go_wp2_with (first | (refine load_cells rfl 28 _ rfl _ rfl (css k) hcell _ Try.underlying28 rfl 7 (by kernel_rfl) hlenk ?_) | (refine load_cells rfl 28 _ rfl _ rfl (css k) hnew _ Try.underlying28 rfl 7 (by kernel_rfl) hlenk ?_) | (refine store_new rfl 28 _ _ rfl rfl _ _ _ rfl (css k) rfl rfl 7 (by kernel_rfl) hlenk rfl hone ?_) | (go_at_call 30; (with_reducible refine H.out.mono ?_); rintro e2 w2 ⟨rfl, ho2, hg2⟩))
          go_roundw
          case rel => exact ⟨k + 1, d ++ namesN n q, by omega, by go_num, hQ', by rw [List.length_append, ← Nat.add_assoc, List.map_append, ← List.append_assoc]; exact ho2, hga.trans hg2⟩
          case measure => simp [intOf]; omega
        · have hdr : N = d := by rw [hq.out, List.drop_of_length_le (by omega)]; simp
          clear hq hl1 hkt' hih
          go_wp2
          go_end0
          exact ⟨rfl, hdr ▸ hor, hgr⟩
end Go.Proofs.Ytljkfobgbjnilaa
