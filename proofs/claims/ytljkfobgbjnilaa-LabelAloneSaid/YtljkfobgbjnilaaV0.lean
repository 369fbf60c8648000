/- Arguments, opened: what memory says of a list of texts and of an expression that is handed in. -/
import Derived.Test.YtljkfobgbjnilaaA1
import Derived.Deep.Slices
import Derived.Deep.Fields
import Derived.ChangeSame
import Derived.SliceStrings
import Derived.SizedLaws
import Derived.OpenShut
namespace Go.Proofs.Ytljkfobgbjnilaa
open Go.RowKit Go.ChangeShapes Go.WideShapes Go.Deep

section
variable {H : Type} {enc : TypeId × Value → H} {w : World} {base : Nat} {spare : Nat → Bool} {held : Bool}
theorem trod_float {P : Program} {t : TypeId} {k : FloatKind} {fuel : Nat} {cs : List Value} {x : DataW H × List MemPlace} (ht : P.underlying t = some (.float k)) (h : DataW.trod enc P w base spare held fuel t cs = some x) : ∃ n, cs = [.float k n] := by
  cases fuel with
  | zero => simp [DataW.trod] at h
  | succ n =>
    unfold DataW.trod at h
    rw [ht] at h
    split at h <;> simp_all
theorem cells_lt {a : Addr} {n : Nat} {cs : List Value} (h : w.cells? base a n = some cs) (hn : 0 < n) : a.block < w.heap.size := by
  obtain ⟨_, hcl, hat⟩ := World.cells?_some h
  have h0 := hat 0 hn
  rw [List.getElem?_eq_getElem (by omega)] at h0
  have := World.block_lt_of_cell? w _ h0
  rwa [add_block] at this

theorem weightsAll_mem {P : Program} {e : TypeId} : ∀ (l : List (DataW H)) (d : DataW H), d ∈ l → ∀ v ∈ d.weights P e, v ∈ DataW.weightsAll P e l
  | [], _, h, _, _ => by cases h
  | x :: l, d, h, v, hv => by
    unfold DataW.weightsAll
    rcases List.mem_cons.1 h with rfl | h
    · exact List.mem_append_left _ hv
    · exact List.mem_append_right _ (weightsAll_mem l d h v hv)

set_option maxRecDepth 100000 in
/-- An expression that is handed in. -/
theorem re_of_trod : ∀ (fuel : Nat) (cs : List Value) (x : DataW H × List MemPlace), DataW.trod enc Try.prog w base spare held fuel 28 cs = some x → ((x.1.weights Try.prog 28).all (· ≤ reachBytes) = true) → ∃ e, RE (fun k => k < w.heap.size) w e cs := by
  intro fuel
  induction fuel using Nat.strongRecOn with
  | _ fuel ih =>
  intro cs x h hw
  obtain ⟨xs, n, rfl, rfl, hlen, hxs, hf⟩ := DataW.trod_struct Try.underlying28 h
  have hc7 : cs.length = 7 := hlen.trans (by kernel_rfl)
  have k1 : Try.prog.cellsOf 3 = 1 := by kernel_rfl
  have k8 : Try.prog.cellsOf 2 = 1 := by kernel_rfl
  have k2 : Try.prog.cellsOf 9 = 1 := by kernel_rfl
  have k3 : Try.prog.cellsOf 25 = 4 := by kernel_rfl
  have k4 : Try.prog.cellsOf 26 = 1 := by kernel_rfl
  have k5 : Try.prog.cellsOf 23 = 1 := by kernel_rfl
  have k6 : Try.prog.cellsOf 28 = 7 := by kernel_rfl
  have k7 : Try.prog.bytesOf 28 = 88 := by kernel_rfl
  match cs, hc7, xs, hxs with
  | [c0, c1, c2, c3, c4, c5, c6], _, [y0, y1, y2, y3], _ =>
    have h0 : DataW.trod enc Try.prog w base spare held n 3 [c0] = some y0 := by simpa [k1] using hf 0 _ rfl
    have h1 : DataW.trod enc Try.prog w base spare held n 9 [c1] = some y1 := by simpa [k2] using hf 1 _ rfl
    have h2 : DataW.trod enc Try.prog w base spare held n 25 [c2, c3, c4, c5] = some y2 := by simpa [k3] using hf 2 _ rfl
    have h3 : DataW.trod enc Try.prog w base spare held n 26 [c6] = some y3 := by simpa [k4] using hf 3 _ rfl
    clear hf h
    obtain ⟨kk, e0, rfl, -⟩ := DataW.trod_int Try.underlying3 h0
    obtain ⟨nm, e1, rfl, -⟩ := DataW.trod_string Try.underlying9 h1
    obtain ⟨zs, n2, -, -, -, hzl, hg⟩ := DataW.trod_struct Try.underlying25 h2
    injection e0 with e0 _; subst e0
    injection e1 with e1 _; subst e1
    match zs, hzl with
    | [z0, z1, z2, z3], _ =>
      have g0 : DataW.trod enc Try.prog w base spare held n2 3 [c2] = some z0 := by simpa [k1] using hg 0 _ rfl
      have g1 : DataW.trod enc Try.prog w base spare held n2 2 [c3] = some z1 := by simpa [k8] using hg 1 _ rfl
      have g2 : DataW.trod enc Try.prog w base spare held n2 23 [c4] = some z2 := by simpa [k5] using hg 2 _ rfl
      have g3 : DataW.trod enc Try.prog w base spare held n2 9 [c5] = some z3 := by simpa [k2] using hg 3 _ rfl
      obtain ⟨vk, e2, -, -⟩ := DataW.trod_int Try.underlying3 g0
      obtain ⟨vn, e3, -, -⟩ := DataW.trod_int Try.underlying2 g1
      obtain ⟨vf, e4⟩ := trod_float Try.underlying23 g2
      obtain ⟨vs, e5, -, -⟩ := DataW.trod_string Try.underlying9 g3
      injection e2 with e2 _; subst e2
      injection e3 with e3 _; subst e3
      injection e4 with e4 _; subst e4
      injection e5 with e5 _; subst e5
      clear hg g0 g1 g2 g3 h0 h1 h2
      have hw3 : (y3.1.weights Try.prog 26).all (· ≤ reachBytes) = true := by
        refine List.all_eq_true.2 fun v hv => List.all_eq_true.1 hw v ?_
        have := DataW.weights_mem_each (P := Try.prog) (ts := [3, 9, 25, 26]) (ds := [.lit (.int .i64 kk), .lit (.string nm.data.toList), y2.1, y3.1]) (j := 3) rfl rfl v hv
        unfold DataW.weights
        rw [Try.underlying28]
        exact this
      rcases DataW.trod_slice Try.underlying26 h3 with ⟨hcs, -⟩ | ⟨a, len, cap, elems, rest, n3, hn3, hcs, hx, hb, hl, hm, hlen3, hel, -, -⟩
      · injection hcs with hcs _
        subst hcs
        exact ⟨⟨kk, nm, ⟨vk, vn, vf, vs⟩, []⟩, .mk _ _ none 0 (fun _ => []) rfl rfl rfl rfl rfl rfl rfl rfl (Nat.le_refl _) (Nat.zero_le _) (fun _ => rfl) (fun i q hq => by cases hq) (fun a ha => by cases ha) (fun a ha => by cases ha)⟩
      · injection hcs with hcs _
        subst hcs
        have hs3 : (elems.length + rest.length) * 88 ≤ reachBytes := by
          have := List.all_eq_true.1 hw3 ((elems.length + rest.length) * Try.prog.bytesOf 28) (by rw [hx]; unfold DataW.weights; rw [Try.underlying26]; simp)
          rw [k7] at this
          simpa using this
        have each : ∀ i, i < len → ∃ e cs', RE (fun k => k < w.heap.size) w e cs' ∧ CellsAt w a (i * 7) cs' ∧ a.block < w.heap.size := by
          intro i hi
          have h4 := hel i hi
          rw [k6, List.getElem?_eq_getElem (by omega)] at h4
          obtain ⟨cs', hc, ht⟩ := Option.bind_eq_some_iff.1 h4
          obtain ⟨e, he⟩ := ih n3 (by omega) cs' _ ht (by
            refine List.all_eq_true.2 fun v hv => List.all_eq_true.1 hw3 v ?_
            rw [hx]
            unfold DataW.weights
            rw [Try.underlying26]
            refine List.mem_cons_of_mem _ (List.mem_append_left _ (weightsAll_mem _ _ (List.mem_map_of_mem (List.getElem_mem (by omega))) v hv)))
          obtain ⟨-, hcl, hat⟩ := World.cells?_some hc
          refine ⟨e, cs', he, fun j u hj => ?_, by have := cells_lt hc (by omega); rwa [add_block] at this⟩
          have hj7 : j < 7 := by rw [← hcl]; exact (List.getElem?_eq_some_iff.1 hj).1
          rw [← addr_add_add, hat j hj7, hj]
        have ex : ∃ (l : List E) (css : Nat → List Value), l.length = len ∧ ∀ i q, l[i]? = some q → RE (fun k => k < w.heap.size) w q (css i) ∧ CellsAt w a (i * 7) (css i) ∧ a.block < w.heap.size := by
          refine ⟨(List.range len).map (fun i => if h : i < len then Classical.choose (each i h) else zE), fun i => if h : i < len then Classical.choose (Classical.choose_spec (each i h)) else [], by simp, fun i q hq => ?_⟩
          rw [List.getElem?_map] at hq
          have hi : i < len := by
            rcases Nat.lt_or_ge i len with h | h
            · exact h
            · rw [List.getElem?_eq_none (by simpa using h)] at hq; cases hq
          rw [List.getElem?_range hi] at hq
          simp only [Option.map_some, Option.some.injEq, dif_pos hi] at hq
          subst hq
          simp only [dif_pos hi]
          exact Classical.choose_spec (Classical.choose_spec (each i hi))
        obtain ⟨l, css, hll, hls⟩ := ex
        subst hll
        exact ⟨⟨kk, nm, ⟨vk, vn, vf, vs⟩, l⟩, .mk _ _ (some a) cap css rfl rfl rfl rfl rfl rfl rfl rfl hl (by have : reachBytes < 2 ^ 47 := reachBytes_lt; show l.length ≤ _; omega) (fun ha => by cases ha) (fun i q hq => (hls i q hq).1) (fun a' ha h0 => by cases ha; exact (hls 0 _ (List.getElem?_eq_getElem h0)).2.2)
          (fun a' ha i hi => by cases ha; exact (hls i _ (List.getElem?_eq_getElem hi)).2.1)⟩
end
end Go.Proofs.Ytljkfobgbjnilaa
