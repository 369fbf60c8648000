/- The walk of label.Names. -/
import Derived.Test.YtljkfobgbjnilaaH5
import Derived.Test.YtljkfobgbjnilaaI0
namespace Go.Proofs.Ytljkfobgbjnilaa
open Go.RowKit Go.Maps Go.Sort Go.Shelf

/-- a new list of texts is returned, and all that was stays -/
def RList (l : List ByteArray) (w : World) (e : Ending) (w' : World) : Prop := ∃ A c, e = .returned (.slice A l.length c) ∧ SL (fun k => w.heap.size ≤ k) w' l A c ∧ Below w.heap.size w w'

theorem isKey_str (s : ByteArray) : WideAt.IsKeyLit (litS s) := trivial

theorem sl_of_row {w : World} {base : Nat} {v : Value} {l : List ByteArray} {n : Nat} {xs : List Value} (hx : xs = l.map Value.string) (hn : n = l.length) (hbig : l.length ≤ 281474976710656) (h : w.ownsRow base 9 1 v n xs) : ∃ A c, v = .slice A l.length c ∧ SL (fun k => base ≤ k) w l A c := by
  subst hx hn
  obtain ⟨_, ⟨rfl, h0⟩ | ⟨g, cap, cur, rfl, hg, hblk, hle, hcap, hcur, htake⟩⟩ := h
  · have hl : l = [] := List.eq_nil_of_length_eq_zero h0
    subst hl
    exact ⟨none, 0, rfl, ⟨Nat.zero_le _, Nat.zero_le _, fun _ => rfl, (fun a ha => by cases ha), (fun a ha => by cases ha)⟩⟩
  · refine ⟨_, cap, rfl, ⟨hle, hbig, (fun ha => by cases ha), (fun a ha _ => by cases ha; exact hg), ?_⟩⟩
    intro a ha i s hs
    cases ha
    rw [addr_zero_add, cell_of_row _ _ _ _ _ _ hblk]
    have : (cur.toList.take (l.length * 1))[i]? = some (.string s) := by rw [htake, List.getElem?_map, hs]; rfl
    rw [List.getElem?_take] at this
    split at this
    · simpa using this
    · cases this

/-- what slices.Sorted(maps.Keys(out)) hands back: the names, rising -/
theorem sorted_of_keys {ss : List (List UInt8)} {names : List ByteArray} {w : World} {b n : Nat} (hown : w.ownsMap Try.prog 9 (plainElem Try.prog 4) b n (setB (names.map litS))) (hp : ss.Perm (strKeys (setB (names.map litS)))) :
    (ss.mergeSort (fun x y => decide (x ≤ y))).map encStr = (sortS names).map Value.string ∧ ss.length = (sortS names).length := by
  have hd : ∀ {a b : ByteArray}, a.data.toList = b.data.toList → a = b := fun {a b} h => by cases a; cases b; simp at h; rw [h]
  have hsrt := sorted_sortS names
  have hpk : ((sortS names).map (·.data.toList)).Perm (strKeys (setB (names.map litS))) := by
    obtain ⟨es, hD, hpw, _⟩ := hown.entries (string_keyed Try.underlying9)
    obtain ⟨es', hD', hko⟩ := hown.keysOf
    obtain rfl : es = es' := by rw [hD] at hD'; simpa using hD'
    have hhas : ∀ x : List UInt8, Maps.has (setB (names.map litS)) (.string x) = (names.map litS).any (fun y => y.sameKey (.string x)) := fun x => has_setOf _ _ _ (fun y hy => by obtain ⟨s, _, rfl⟩ := List.mem_map.1 hy; exact isKey_str s)
    rw [hD] at hhas
    rw [hD]
    refine perm_strKeys hpw (fun p hp => by obtain ⟨v, hv⟩ := hko p hp; obtain ⟨x, _, hx, _⟩ := Maps.keyOf_str Try.underlying9 hv; exact ⟨x, hx⟩) ?_ ?_
    · refine List.pairwise_map.2 (hsrt.imp fun {a b} hab e => ?_)
      rw [hd e] at hab
      exact ltk_irrefl _ hab
    · intro x
      rw [hhas x, List.any_map, List.any_eq_true, List.mem_map]
      constructor
      · rintro ⟨s, hs, rfl⟩
        exact ⟨s, mem_sortS.1 hs, by simp [litS, Lit.sameKey]⟩
      · rintro ⟨s, hs, h⟩
        exact ⟨s, mem_sortS.2 hs, by simpa [litS, Lit.sameKey] using h⟩
  have hps := hp.trans hpk.symm
  have hle : ((sortS names).map (·.data.toList)).Pairwise (fun a b => leB a b = true) := by
    refine List.pairwise_map.2 (hsrt.imp fun {a b} hab => ?_)
    simp only [leB, decide_eq_true_eq]
    exact List.le_of_lt hab
  have e1 : ss.mergeSort leB = (sortS names).map (·.data.toList) := by rw [mergeSort_of_perm hps, List.mergeSort_of_pairwise hle]
  refine ⟨?_, by rw [hps.length_eq, List.length_map]⟩
  show (ss.mergeSort leB).map encStr = _
  rw [e1, List.map_map]
  exact List.map_congr_left fun s _ => by simp [encStr]

set_option maxHeartbeats 1000000 in
set_option maxRecDepth 100000 in
theorem labelNames_calls {S : Nat → Prop} {w0 : World} {e : E} {cs : List Value} (h : RE S w0 e cs) (hS : ∀ k, S k → k < w0.heap.size) (hN : (namesN 50 e).length ≤ 1000000000000) (w : World) (hb : Below w0.heap.size w0 w) :
    Calls Try.prog 15 #[.agg cs.toArray] w (RList (sortedNames e) w) := by
  have hlen := h.length
  have hnew := cells_new w cs 28 (0, 0)
  have hb1 : Below w.heap.size w (w.alloc (.cells cs.toArray 28)) := below_new (Below.refl _ _) _
  have hbw := below_trans hb hb1
  have HR := Lib.hid (labelRight_calls h _ hbw)
  by_cases hr : labelRight e = true
  · have hrr := Lib.hid hr
    have hres : Hid (sortedNames e = sortS (namesN 50 e)) := by show _ = _; unfold sortedNames; rw [if_pos hr]
    have HN := Lib.hid (fun b hne w' hg m' => names_calls 50 h (okNames_right hr) b hne w' hg [] 0 m' (by unfold maxLen; omega))
    clear h hr
    go_enter Try.func15, Try.ntmps15
    have hmm := @run_makeMap Try.prog
    have hsz2 : w0.heap.size ≤ w.heap.size := hb.size
    have arm2 : ∀ w2, Below w.heap.size w w2 → ∀ k, S k → k ≠ w2.heap.size := fun w2 h2 k hk e => by have := hS k hk; have := h2.size; omega
    have arm2' := Lib.hid arm2; clear arm2 hS
    have hbig : Hid ((sortS (namesN 50 e)).length ≤ 281474976710656) := by show _ ≤ _; have := length_sortS (namesN 50 e); omega
    have hN' := Lib.hid hN; clear hN
    go_wp2_with (first | (refine load_cells rfl 28 _ rfl _ rfl cs hnew _ Try.underlying28 rfl 7 (by kernel_rfl) hlen ?_) | (refine load_cells rfl 28 _ rfl _ rfl cs hcell2 _ Try.underlying28 rfl 7 (by kernel_rfl) hlen ?_) | (go_at_call 19; (with_reducible refine HR.out.mono ?_); rintro e2 w2 ⟨rfl, hb2⟩; rw [hrr.out]; have hb3 := below_trans hb1 hb2; have hcell2 := (hnew.mono hb2).mono (below_new (Below.refl _ w2) (.map #[] 0)); have hbm := (below_trans hb (below_new hb3 (.map #[] 0))); have H4 := Lib.hid (HN.out w2.heap.size (arm2'.out w2 hb3) (w2.alloc (.map #[] 0)) (grown_of_below hbm _) (World.ownsMap_made w2 _ _ _))) | (go_at_call 30; (with_reducible refine H4.out.mono ?_); rintro e3 w3 ⟨rfl, ho3, hg3⟩; rw [Nat.zero_add] at ho3; have hK := Lib.hid ((callsIn_wide (n := 5)).1 (Try.maps_Keys_32 (some w2.heap.size) w3)); have hT := Lib.hid ((callsIn_wide (n := 5)).1 (Try.slices_Sorted_keys_31_32 w2.heap.size _ _ _ w3 ho3 (by have := ho3.size_le; have := hN'.out; unfold maxLen; omega) (by have := ho3.size_le; have := hN'.out; omega))); have ho3' := Lib.hid ho3; have hg3' := Lib.hid hg3; clear ho3 hg3) | (go_at_call 32; refine hK.out.mono ?_; rintro e4 w4 ⟨rfl, rfl⟩) | (go_at_call 31; refine hT.out.mono ?_; rintro e5 w5 ⟨v, ss, rfl, hP, hrow, hnil, hb5⟩))
    go_ret
    rw [List.nil_append] at hP ho3'
    obtain ⟨q1, q2⟩ := sorted_of_keys ho3'.out hP
    obtain ⟨A, c, hv, hsl⟩ := sl_of_row q1 q2 hbig.out hrow
    have hb6 : Below w.heap.size w w3 := by
      have z := hg3'.out
      refine ⟨z.os.trans hb3.os, z.tape.trans hb3.tape, z.output.trans hb3.output, ?_, fun k hk => ?_⟩
      · have h1 := z.size; have h2 := hb3.size; rw [World.size_alloc] at h1; omega
      · have z1 := hb3.size
        rw [z.block k (by rw [World.size_alloc]; omega) (fun e => by simp at e; omega)]
        exact (below_new hb3 _).block k hk
    have hb7 : Below w.heap.size w (w3.alloc (.cells #[.map (some w2.heap.size)] 47)) := below_new hb6 _
    rw [hres.out]
    refine ⟨A, c, ?_, ⟨hsl.cap, hsl.big, hsl.nil, fun a ha h0 => ?_, hsl.mem⟩, below_trans hb7 hb5⟩
    · rw [← hv]; rfl
    · have := hsl.ok a ha h0; have := hb7.size; omega
  · have hr' : labelRight e = false := by simpa using hr
    have hrr := Lib.hid hr'
    have hres : Hid (sortedNames e = []) := by show _ = _; unfold sortedNames; rw [hr']; rfl
    clear h hr hr'
    go_enter Try.func15, Try.ntmps15
    go_wp2_with (first | (refine load_cells rfl 28 _ rfl _ rfl cs hnew _ Try.underlying28 rfl 7 (by kernel_rfl) hlen ?_) | (go_at_call 19; (with_reducible refine HR.out.mono ?_); rintro e2 w2 ⟨rfl, hb2⟩; rw [hrr.out]; have hb3 := below_trans hb1 hb2))
    go_ret
    rw [hres.out]
    exact ⟨none, 0, rfl, ⟨Nat.zero_le _, Nat.zero_le _, fun _ => rfl, (fun a ha => by cases ha), (fun a ha => by cases ha)⟩, hb3⟩
end Go.Proofs.Ytljkfobgbjnilaa
