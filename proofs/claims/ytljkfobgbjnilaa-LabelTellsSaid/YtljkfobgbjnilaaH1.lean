/- Lists of strings in memory; the walks of slices.Index and slices.Contains over them. -/
import Derived.Test.YtljkfobgbjnilaaB2
import Derived.Test.YtljkfobgbjnilaaH0
namespace Go.Proofs.Ytljkfobgbjnilaa
open Go.RowKit

/-- A row of strings that is read. -/
structure SL (S : Nat → Prop) (w : World) (l : List ByteArray) (A : Option Addr) (c : Nat) : Prop where
  cap : l.length ≤ c
  big : l.length ≤ 281474976710656
  nil : A = none → l = []
  ok : ∀ a, A = some a → 0 < l.length → S a.block
  mem : ∀ a, A = some a → ∀ i s, l[i]? = some s → w.cell? (a.add i) = some (.string s)
theorem SL.mono {S : Nat → Prop} {w w1 : World} {l : List ByteArray} {A : Option Addr} {c : Nat} (h : SL S w l A c) (hb : Below w.heap.size w w1) : SL S w1 l A c :=
  ⟨h.cap, h.big, h.nil, h.ok, fun a ha i s hs => cell_kept hb (h.mem a ha i s hs)⟩
theorem SL.at_ {S : Nat → Prop} {w : World} {l : List ByteArray} {A : Option Addr} {c : Nat} (h : SL S w l A c) {k : Nat} (hk : k < l.length) :
    ∃ q ad, l[k]? = some q ∧ A = some ad ∧ w.cell? (ad.add k) = some (.string q) := by
  have hq : l[k]? = some l[k] := List.getElem?_eq_getElem hk
  cases A with
  | none => have := h.nil rfl; subst this; simp at hk
  | some ad => exact ⟨_, ad, hq, rfl, h.mem ad rfl k _ hq⟩

set_option maxHeartbeats 1000000 in
set_option maxRecDepth 100000 in
theorem indexS_calls {S : Nat → Prop} {w0 : World} {l : List ByteArray} {A : Option Addr} {c : Nat} (h : SL S w0 l A c) (s : ByteArray) (w : World) (hb : Below w0.heap.size w0 w) :
    Calls Try.prog 55 #[.slice A l.length c, .string s] w (RInt (idxOf (sameS s) l 0) w) := by
  have hbig := h.big
  have hlw := h.mono hb
  clear h hb
  generalize hn : l.length = n at *
  go_enter Try.func55, Try.ntmps55
  go_wp2
  go_loopw [8] (fun i wr => ∃ k : Nat, k ≤ n ∧ i = .int .i64 k ∧ Hid (idxOf (sameS s) (l.drop k) k = idxOf (sameS s) l 0) ∧ wr = w) (fun i _ => n - (intOf i).toNat)
  case atStart => exact ⟨0, Nat.zero_le _, rfl, rfl, rfl⟩
  case round =>
    obtain ⟨k, hk, rfl, hq, rfl⟩ := hrel
    by_cases hlt : k < n
    · obtain ⟨q, ad, hkq, rfl, hcell⟩ := hlw.at_ (k := k) (by omega)
      have hQ := Lib.hid (show idxOf (sameS s) (l.drop k) k = if sameS s q then (k : Int) else idxOf (sameS s) (l.drop (k + 1)) (k + 1) by rw [drop_get hkq, idxOf])
      clear hlw
      cases hqq : sameS s q
      · have hq' : Hid (idxOf (sameS s) (l.drop (k + 1)) ((k + 1 : Nat) : Int) = idxOf (sameS s) l 0) := by
          show _ = _
          rw [← hq.out, hQ.out, hqq]; rfl
        have hqq' : (s.toList == q.toList) = false := hqq
        clear hQ hq hqq
        go_wp2
        exact ⟨⟨k + 1, by omega, by go_num, hq', trivial⟩, by simp [intOf]; omega⟩
      · have hres : Hid (idxOf (sameS s) l 0 = k) := by show _ = _; rw [← hq.out, hQ.out, hqq]; rfl
        have hqq' : (s.toList == q.toList) = true := hqq
        clear hQ hq hqq
        go_wp2
        go_ret
        exact ⟨by rw [hres.out]; rfl, Below.refl _ _⟩
    · have hres : Hid (idxOf (sameS s) l 0 = -1) := by show _ = _; rw [← hq.out, List.drop_of_length_le (by omega), idxOf]
      clear hlw hq
      go_wp2
      go_ret
      exact ⟨by rw [hres.out]; rfl, Below.refl _ _⟩

set_option maxHeartbeats 400000 in
set_option maxRecDepth 100000 in
theorem containsS_calls {S : Nat → Prop} {w0 : World} {l : List ByteArray} {A : Option Addr} {c : Nat} (h : SL S w0 l A c) (s : ByteArray) (w : World) (hb : Below w0.heap.size w0 w) :
    Calls Try.prog 46 #[.slice A l.length c, .string s] w (RBool (l.any (sameS s)) w) := by
  have H := Lib.hid (indexS_calls h s w hb)
  have hi := idxOf_any (sameS s) l 0 (by omega)
  clear h
  generalize idxOf (sameS s) l 0 = r at *
  go_enter Try.func46, Try.ntmps46
  go_wp2_with (go_at_call 55; refine H.out.mono ?_; rintro e2 w2 ⟨rfl, hb2⟩)
  go_ret
  exact ⟨rfl, hb2⟩
end Go.Proofs.Ytljkfobgbjnilaa
