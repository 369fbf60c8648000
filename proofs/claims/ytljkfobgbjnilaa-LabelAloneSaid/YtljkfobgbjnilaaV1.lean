/- Arguments, opened: a list of texts, an expression. -/
import Derived.Test.YtljkfobgbjnilaaV0
import Derived.Test.YtljkfobgbjnilaaH7
namespace Go.Proofs.Ytljkfobgbjnilaa
open Go.RowKit Go.ChangeShapes Go.WideShapes Go.Deep

section
variable {H : Type} {enc : TypeId × Value → H} {w : World} {base b0 : Nat} {spare : Nat → Bool} {held : Bool} {r : Reach} {ts : List TypeId} {ds : List (DataW H)}
theorem open_expr {j : Nat} {v : Value} {d : DataW H} {p : List MemPlace} (hsz : (DataW.weightsEach Try.prog ts ds).all (· ≤ reachBytes) = true) (ht : ts[j]? = some 28) (hd : ds[j]? = some d)
    (hv : Value.okWide Try.prog w r b0 28 v) (h : DataW.Trod enc Try.prog w base spare held 28 v d p) : ∃ e cs, v = .agg cs.toArray ∧ RW w e cs := by
  obtain ⟨cs, rfl, -⟩ := okWide_struct Try.underlying28 hv
  obtain ⟨fuel, hf⟩ := h
  obtain ⟨e, he⟩ := re_of_trod fuel cs.toList _ hf (List.all_eq_true.2 fun x hx => List.all_eq_true.1 hsz x (DataW.weights_mem_each ht hd x hx))
  exact ⟨e, cs.toList, by simp, he⟩
theorem open_strs {j : Nat} {v : Value} {d : DataW H} {p : List MemPlace} (hsz : (DataW.weightsEach Try.prog ts ds).all (· ≤ reachBytes) = true) (ht : ts[j]? = some 22) (hd : ds[j]? = some d)
    (hv : Value.okWide Try.prog w r b0 22 v) (h : DataW.Trod enc Try.prog w base spare held 22 v d p) : ∃ l A c, v = .slice A l.length c ∧ SW w l A c := by
  obtain ⟨a0, len0, cap0, rfl⟩ := okWide_slice Try.underlying22 hv
  obtain ⟨fuel, hf⟩ := h
  rcases open_strings Try.underlying22 Try.underlying9 (by kernel_rfl) hf with ⟨hcs, -⟩ | ⟨a, len, cap, ss, hcs, _, hl, hm, hss, hx, hcell, _⟩
  · simp [Value.cells] at hcs
    obtain ⟨rfl, rfl, rfl⟩ := hcs
    exact ⟨[], none, 0, rfl, sl_nil w⟩
  · simp [Value.cells] at hcs
    obtain ⟨rfl, rfl, rfl⟩ := hcs
    simp only [Prod.mk.injEq] at hx
    have hlen : len0 ≤ ss.length := by rw [hss]; split <;> omega
    have htl : (ss.take len0).length = len0 := by rw [List.length_take]; omega
    have hb := sized_slice hsz ht (by rw [hd, hx.1]) Try.underlying22
    have kb : Try.prog.bytesOf 9 = 16 := by kernel_rfl
    have hbig : len0 ≤ 281474976710656 := by
      rw [kb] at hb
      have e1 : (strs (H := H) (ss.take len0)).length = len0 := by unfold strs; rw [List.length_map, htl]
      have := reachBytes_lt
      rw [e1] at hb
      omega
    have key : ∀ i s, (ss.take len0)[i]? = some s → w.cell? (a.add i) = some (.string s) := by
      intro i s hs
      rw [List.getElem?_take] at hs
      split at hs
      · next hi =>
        have := hcell i (by omega)
        rw [List.getD_eq_getElem?_getD, hs] at this
        exact this
      · cases hs
    refine ⟨ss.take len0, some a, cap0, by rw [htl], ⟨by rw [htl]; exact hl, by rw [htl]; exact hbig, (fun ha => by cases ha), (fun a' ha h0 => ?_), (fun a' ha i s hs => by cases ha; exact key i s hs)⟩⟩
    cases ha
    have := World.block_lt_of_cell? w _ (key 0 _ (List.getElem?_eq_getElem h0))
    rwa [add_block] at this
end
end Go.Proofs.Ytljkfobgbjnilaa
