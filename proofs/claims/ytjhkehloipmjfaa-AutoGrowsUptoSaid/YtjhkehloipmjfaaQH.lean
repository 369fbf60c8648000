/- Walks: whether a graph and a pattern are small enough to be looked at. -/
import Derived.Test.YtjhkehloipmjfaaGR
import Derived.Test.YtjhkehloipmjfaaQG
import Derived.Test.YtjhkehloipmjfaaQ2
namespace Go.Proofs.Ytjhkehloipmjfaa
open Go.RowKit
structure SmallP (g : Gr) (p : Pt) : Prop where
  n8 : g.nodes.length ≤ 8
  n0 : 0 < g.nodes.length
  e10 : g.edges.length ≤ 10
  cnt : countP p ≤ 100
  right : graphRight g = 0
  check : checkQ ⟨1, 0, 0, p⟩ = 0
  size : sizeN p ≤ 40
section
variable {g : Gr} {p : Pt} (hN : ∀ n ∈ g.nodes, n.props.length ≤ 1048576) (hE : ∀ n ∈ g.edges, n.props.length ≤ 1048576) (hvb : (varsP p).length ≤ 1000000)
include hN hE hvb
set_option maxRecDepth 100000 in
set_option maxHeartbeats 4000000 in
theorem small_yes (h : SmallP g p) : CallsV Try.prog 34 [.dat (encG g), .dat (encP p)] (.val (vB true)) := by
  have hln : (g.nodes.map encNd).length = g.nodes.length := List.length_map _
  have hle : (g.edges.map encEd).length = g.edges.length := List.length_map _
  obtain ⟨h1, h2, h3, h4, h5, h6, h7⟩ := h
  have hG := graphRight_v g hN hE
  have hC := check_v ⟨1, 0, 0, p⟩ hvb
  have hS := size_v p (check_ok h6).1
  have hK := countP_v p
  rw [h5] at hG
  rw [h6] at hC
  unfold encG at hG ⊢
  (refine callsV_of_W (Ty := Ty) ty_ok Try.func34 rfl rfl rfl fun w0 S0 => ?_; simp only [argsF, List.zipIdx_cons, List.zipIdx_nil, List.map_cons, List.map_nil, Nat.zero_add])
  repeat' (first | refine W_seq ?_ | refine W_region ?_ | ((first | refine RL_nil ?_ | refine W_skip ?_ | refine W_ret ?_); (first | change W _ _ _ _ _ | change EndQ _ _ _ _ _ _ | change Exists _ | skip)) | (refine isRL ?_; first | refine uBdQ ⟨1, 0, 0, p⟩ ?_ | refine uMv ?_ | refine uAs ?_ | refine uO ?_ | (refine isBin ?_; first | refine uBb true ?_ | refine uBb false ?_ | refine uP ?_ | refine uEq true ?_ | refine uEq false ?_) | (refine isLd ?_; first | refine uLp ?_ | refine uLb ?_ | refine uL1 ?_ | refine uL2 ?_ | refine uP ?_) | (refine isCl ?_; first | refine uC (hG) ?_ | refine uC (hC) ?_ | refine uC (hS) ?_ | refine uC (hK) ?_ | refine uP ?_) | (refine isFa ?_; first | refine uP ?_) | (refine isBd ?_; first | refine uBd ?_ | refine uP ?_) | refine uP ?_ | refine uBx ?_ | refine uN ?_ | ((first | refine uGsD ?_ ?_ | refine uGsE ?_ ?_ | refine uGsN ?_ ?_ | refine uGsND ?_ ?_ | refine uGsNE ?_ ?_ | refine uGsNB ?_ ?_ | refine uGs ?_ ?_) <;> intro hb)) | refine wT fun _ => ?_ | refine wF fun _ => ?_ | ((first | refine wCsD ?_ ?_ | refine wCsE ?_ ?_ | refine wCsN ?_ ?_ | refine wCsND ?_ ?_ | refine wCsNE ?_ ?_ | refine wCsNB ?_ ?_ | refine wCs ?_ ?_) <;> intro hb))
  exact end_r (by rfl) rfl
set_option maxRecDepth 100000 in
set_option maxHeartbeats 4000000 in
theorem small_no (h : ¬ SmallP g p) : CallsV Try.prog 34 [.dat (encG g), .dat (encP p)] (.val (vB false)) := by
  have hln : (g.nodes.map encNd).length = g.nodes.length := List.length_map _
  have hle : (g.edges.map encEd).length = g.edges.length := List.length_map _
  have hG := graphRight_v g hN hE
  have hC := check_v ⟨1, 0, 0, p⟩ hvb
  have hK := countP_v p
  generalize hgr : graphRight g = r at hG
  unfold encG at hG ⊢
  (refine callsV_of_W (Ty := Ty) ty_ok Try.func34 rfl rfl rfl fun w0 S0 => ?_; simp only [argsF, List.zipIdx_cons, List.zipIdx_nil, List.map_cons, List.map_nil, Nat.zero_add])
  by_cases h1 : 8 < g.nodes.length
  · repeat' (first | refine W_seq ?_ | refine W_region ?_ | ((first | refine RL_nil ?_ | refine W_skip ?_ | refine W_ret ?_); (first | change W _ _ _ _ _ | change EndQ _ _ _ _ _ _ | change Exists _ | skip)) | (refine isRL ?_; first | refine uMv ?_ | refine uAs ?_ | refine uO ?_ | (refine isBin ?_; first | refine uBb true ?_ | refine uBb false ?_ | refine uP ?_ | refine uEq true ?_ | refine uEq false ?_) | (refine isLd ?_; first | refine uLp ?_ | refine uLb ?_ | refine uL1 ?_ | refine uL2 ?_ | refine uP ?_) | (refine isCl ?_; first | refine uC (hK) ?_ | refine uP ?_) | (refine isFa ?_; first | refine uP ?_) | (refine isBd ?_; first | refine uBd ?_ | refine uP ?_) | refine uP ?_ | refine uBx ?_ | refine uN ?_ | ((first | refine uGsD ?_ ?_ | refine uGsE ?_ ?_ | refine uGsN ?_ ?_ | refine uGsND ?_ ?_ | refine uGsNE ?_ ?_ | refine uGsNB ?_ ?_ | refine uGs ?_ ?_) <;> intro hb)) | refine wT fun _ => ?_ | refine wF fun _ => ?_ | ((first | refine wCsD ?_ ?_ | refine wCsE ?_ ?_ | refine wCsN ?_ ?_ | refine wCsND ?_ ?_ | refine wCsNE ?_ ?_ | refine wCsNB ?_ ?_ | refine wCs ?_ ?_) <;> intro hb))
    exact end_r (by rfl) rfl
  by_cases h2 : g.nodes.length = 0
  · repeat' (first | refine W_seq ?_ | refine W_region ?_ | ((first | refine RL_nil ?_ | refine W_skip ?_ | refine W_ret ?_); (first | change W _ _ _ _ _ | change EndQ _ _ _ _ _ _ | change Exists _ | skip)) | (refine isRL ?_; first | refine uMv ?_ | refine uAs ?_ | refine uO ?_ | (refine isBin ?_; first | refine uBb true ?_ | refine uBb false ?_ | refine uP ?_ | refine uEq true ?_ | refine uEq false ?_) | (refine isLd ?_; first | refine uLp ?_ | refine uLb ?_ | refine uL1 ?_ | refine uL2 ?_ | refine uP ?_) | (refine isCl ?_; first | refine uC (hK) ?_ | refine uP ?_) | (refine isFa ?_; first | refine uP ?_) | (refine isBd ?_; first | refine uBd ?_ | refine uP ?_) | refine uP ?_ | refine uBx ?_ | refine uN ?_ | ((first | refine uGsD ?_ ?_ | refine uGsE ?_ ?_ | refine uGsN ?_ ?_ | refine uGsND ?_ ?_ | refine uGsNE ?_ ?_ | refine uGsNB ?_ ?_ | refine uGs ?_ ?_) <;> intro hb)) | refine wT fun _ => ?_ | refine wF fun _ => ?_ | ((first | refine wCsD ?_ ?_ | refine wCsE ?_ ?_ | refine wCsN ?_ ?_ | refine wCsND ?_ ?_ | refine wCsNE ?_ ?_ | refine wCsNB ?_ ?_ | refine wCs ?_ ?_) <;> intro hb))
    exact end_r (by rfl) rfl
  by_cases h3 : 10 < g.edges.length
  · repeat' (first | refine W_seq ?_ | refine W_region ?_ | ((first | refine RL_nil ?_ | refine W_skip ?_ | refine W_ret ?_); (first | change W _ _ _ _ _ | change EndQ _ _ _ _ _ _ | change Exists _ | skip)) | (refine isRL ?_; first | refine uMv ?_ | refine uAs ?_ | refine uO ?_ | (refine isBin ?_; first | refine uBb true ?_ | refine uBb false ?_ | refine uP ?_ | refine uEq true ?_ | refine uEq false ?_) | (refine isLd ?_; first | refine uLp ?_ | refine uLb ?_ | refine uL1 ?_ | refine uL2 ?_ | refine uP ?_) | (refine isCl ?_; first | refine uC (hK) ?_ | refine uP ?_) | (refine isFa ?_; first | refine uP ?_) | (refine isBd ?_; first | refine uBd ?_ | refine uP ?_) | refine uP ?_ | refine uBx ?_ | refine uN ?_ | ((first | refine uGsD ?_ ?_ | refine uGsE ?_ ?_ | refine uGsN ?_ ?_ | refine uGsND ?_ ?_ | refine uGsNE ?_ ?_ | refine uGsNB ?_ ?_ | refine uGs ?_ ?_) <;> intro hb)) | refine wT fun _ => ?_ | refine wF fun _ => ?_ | ((first | refine wCsD ?_ ?_ | refine wCsE ?_ ?_ | refine wCsN ?_ ?_ | refine wCsND ?_ ?_ | refine wCsNE ?_ ?_ | refine wCsNB ?_ ?_ | refine wCs ?_ ?_) <;> intro hb))
    exact end_r (by rfl) rfl
  by_cases h4 : 100 < countP p
  · repeat' (first | refine W_seq ?_ | refine W_region ?_ | ((first | refine RL_nil ?_ | refine W_skip ?_ | refine W_ret ?_); (first | change W _ _ _ _ _ | change EndQ _ _ _ _ _ _ | change Exists _ | skip)) | (refine isRL ?_; first | refine uMv ?_ | refine uAs ?_ | refine uO ?_ | (refine isBin ?_; first | refine uBb true ?_ | refine uBb false ?_ | refine uP ?_ | refine uEq true ?_ | refine uEq false ?_) | (refine isLd ?_; first | refine uLp ?_ | refine uLb ?_ | refine uL1 ?_ | refine uL2 ?_ | refine uP ?_) | (refine isCl ?_; first | refine uC (hK) ?_ | refine uP ?_) | (refine isFa ?_; first | refine uP ?_) | (refine isBd ?_; first | refine uBd ?_ | refine uP ?_) | refine uP ?_ | refine uBx ?_ | refine uN ?_ | ((first | refine uGsD ?_ ?_ | refine uGsE ?_ ?_ | refine uGsN ?_ ?_ | refine uGsND ?_ ?_ | refine uGsNE ?_ ?_ | refine uGsNB ?_ ?_ | refine uGs ?_ ?_) <;> intro hb)) | refine wT fun _ => ?_ | refine wF fun _ => ?_ | ((first | refine wCsD ?_ ?_ | refine wCsE ?_ ?_ | refine wCsN ?_ ?_ | refine wCsND ?_ ?_ | refine wCsNE ?_ ?_ | refine wCsNB ?_ ?_ | refine wCs ?_ ?_) <;> intro hb))
    exact end_r (by rfl) rfl
  by_cases h5 : r = 0
  · by_cases h6 : checkQ ⟨1, 0, 0, p⟩ = 0
    · rw [h6] at hC
      have hS := size_v p (check_ok h6).1
      have h7 : 40 < sizeN p := by
        refine Nat.lt_of_not_le fun h7 => h ⟨by omega, by omega, by omega, by omega, by rw [hgr]; exact h5, h6, h7⟩
      subst h5
      repeat' (first | refine W_seq ?_ | refine W_region ?_ | ((first | refine RL_nil ?_ | refine W_skip ?_ | refine W_ret ?_); (first | change W _ _ _ _ _ | change EndQ _ _ _ _ _ _ | change Exists _ | skip)) | (refine isRL ?_; first | refine uBdQ ⟨1, 0, 0, p⟩ ?_ | refine uMv ?_ | refine uAs ?_ | refine uO ?_ | (refine isBin ?_; first | refine uBb true ?_ | refine uBb false ?_ | refine uP ?_ | refine uEq true ?_ | refine uEq false ?_) | (refine isLd ?_; first | refine uLp ?_ | refine uLb ?_ | refine uL1 ?_ | refine uL2 ?_ | refine uP ?_) | (refine isCl ?_; first | refine uC (hG) ?_ | refine uC (hC) ?_ | refine uC (hS) ?_ | refine uC (hK) ?_ | refine uP ?_) | (refine isFa ?_; first | refine uP ?_) | (refine isBd ?_; first | refine uBd ?_ | refine uP ?_) | refine uP ?_ | refine uBx ?_ | refine uN ?_ | ((first | refine uGsD ?_ ?_ | refine uGsE ?_ ?_ | refine uGsN ?_ ?_ | refine uGsND ?_ ?_ | refine uGsNE ?_ ?_ | refine uGsNB ?_ ?_ | refine uGs ?_ ?_) <;> intro hb)) | refine wT fun _ => ?_ | refine wF fun _ => ?_ | ((first | refine wCsD ?_ ?_ | refine wCsE ?_ ?_ | refine wCsN ?_ ?_ | refine wCsND ?_ ?_ | refine wCsNE ?_ ?_ | refine wCsNB ?_ ?_ | refine wCs ?_ ?_) <;> intro hb))
      exact end_r (by rfl) rfl
    · generalize checkQ ⟨1, 0, 0, p⟩ = c at hC h6
      subst h5
      repeat' (first | refine W_seq ?_ | refine W_region ?_ | ((first | refine RL_nil ?_ | refine W_skip ?_ | refine W_ret ?_); (first | change W _ _ _ _ _ | change EndQ _ _ _ _ _ _ | change Exists _ | skip)) | (refine isRL ?_; first | refine uBdQ ⟨1, 0, 0, p⟩ ?_ | refine uMv ?_ | refine uAs ?_ | refine uO ?_ | (refine isBin ?_; first | refine uBb true ?_ | refine uBb false ?_ | refine uP ?_ | refine uEq true ?_ | refine uEq false ?_) | (refine isLd ?_; first | refine uLp ?_ | refine uLb ?_ | refine uL1 ?_ | refine uL2 ?_ | refine uP ?_) | (refine isCl ?_; first | refine uC (hG) ?_ | refine uC (hC) ?_ | refine uC (hK) ?_ | refine uP ?_) | (refine isFa ?_; first | refine uP ?_) | (refine isBd ?_; first | refine uBd ?_ | refine uP ?_) | refine uP ?_ | refine uBx ?_ | refine uN ?_ | ((first | refine uGsD ?_ ?_ | refine uGsE ?_ ?_ | refine uGsN ?_ ?_ | refine uGsND ?_ ?_ | refine uGsNE ?_ ?_ | refine uGsNB ?_ ?_ | refine uGs ?_ ?_) <;> intro hb)) | refine wT fun _ => ?_ | refine wF fun _ => ?_ | ((first | refine wCsD ?_ ?_ | refine wCsE ?_ ?_ | refine wCsN ?_ ?_ | refine wCsND ?_ ?_ | refine wCsNE ?_ ?_ | refine wCsNB ?_ ?_ | refine wCs ?_ ?_) <;> intro hb))
      exact end_r (by rfl) rfl
  · repeat' (first | refine W_seq ?_ | refine W_region ?_ | ((first | refine RL_nil ?_ | refine W_skip ?_ | refine W_ret ?_); (first | change W _ _ _ _ _ | change EndQ _ _ _ _ _ _ | change Exists _ | skip)) | (refine isRL ?_; first | refine uMv ?_ | refine uAs ?_ | refine uO ?_ | (refine isBin ?_; first | refine uBb true ?_ | refine uBb false ?_ | refine uP ?_ | refine uEq true ?_ | refine uEq false ?_) | (refine isLd ?_; first | refine uLp ?_ | refine uLb ?_ | refine uL1 ?_ | refine uL2 ?_ | refine uP ?_) | (refine isCl ?_; first | refine uC (hG) ?_ | refine uC (hC) ?_ | refine uC (hK) ?_ | refine uP ?_) | (refine isFa ?_; first | refine uP ?_) | (refine isBd ?_; first | refine uBd ?_ | refine uP ?_) | refine uP ?_ | refine uBx ?_ | refine uN ?_ | ((first | refine uGsD ?_ ?_ | refine uGsE ?_ ?_ | refine uGsN ?_ ?_ | refine uGsND ?_ ?_ | refine uGsNE ?_ ?_ | refine uGsNB ?_ ?_ | refine uGs ?_ ?_) <;> intro hb)) | refine wT fun _ => ?_ | refine wF fun _ => ?_ | ((first | refine wCsD ?_ ?_ | refine wCsE ?_ ?_ | refine wCsN ?_ ?_ | refine wCsND ?_ ?_ | refine wCsNE ?_ ?_ | refine wCsNB ?_ ?_ | refine wCs ?_ ?_) <;> intro hb))
    exact end_r (by rfl) rfl
end
end Go.Proofs.Ytjhkehloipmjfaa
/- A pattern's machine: how many states and moves, and that its moves lead where there are states. No program in sight. -/
namespace Go.Proofs.Ytjhkehloipmjfaa
open Go.RowKit
/-! ### where moves lead -/
def isEl (v : Mv) : Bool := decide (0 ≤ v.elem)
def cntM (l : List Mv) : Nat := (l.filter isEl).length
theorem cnt_app (a b : List Mv) : cntM (a ++ b) = cntM a + cntM b := by unfold cntM; rw [List.filter_append, List.length_append]
structure Inv (m : Mach) : Prop where
  st : 2 ≤ m.states
  mv : ∀ v ∈ m.moves, 0 ≤ v.src ∧ v.src < m.states ∧ 0 ≤ v.dst ∧ v.dst < m.states ∧ v.src ≠ 1 ∧ -1 ≤ v.elem ∧ v.elem < m.elems.length
  ord : ∀ (i : Nat) (v : Mv), m.moves[i]? = some v → 0 ≤ v.elem → v.elem = cntM (m.moves.take i)
  cnt : cntM m.moves = m.elems.length
theorem inv_mv {m : Mach} {s t : Int} (h : Inv m) (hs : 0 ≤ s ∧ s < m.states ∧ s ≠ 1) (ht : 0 ≤ t ∧ t < m.states) : Inv (mvM s t (-1) m) := by
  obtain ⟨h1, h2, h3, h4⟩ := h
  refine ⟨h1, fun v hv => ?_, fun i v hv h0 => ?_, ?_⟩
  · rcases List.mem_append.1 hv with hv | hv
    · exact h2 v hv
    · obtain rfl := List.mem_singleton.1 hv
      show 0 ≤ s ∧ s < m.states ∧ 0 ≤ t ∧ t < m.states ∧ s ≠ 1 ∧ (-1 : Int) ≤ -1 ∧ (-1 : Int) < m.elems.length
      omega
  · simp only [mvM] at hv ⊢
    by_cases hi : i < m.moves.length
    · rw [List.getElem?_append_left hi] at hv
      rw [h3 i v hv h0, List.take_append_of_le_length (by omega)]
    · rw [List.getElem?_append_right (by omega)] at hv
      obtain rfl := List.mem_singleton.1 (List.mem_of_getElem? hv)
      exact absurd (show (0 : Int) ≤ -1 from h0) (by decide)
  · simp only [mvM]
    rw [cnt_app, h4]; rfl
theorem inv_el {m : Mach} {s t : Int} {p : Pt} (h : Inv m) (hs : 0 ≤ s ∧ s < m.states ∧ s ≠ 1) (ht : 0 ≤ t ∧ t < m.states) : Inv (elM p (mvM s t m.elems.length m)) := by
  obtain ⟨h1, h2, h3, h4⟩ := h
  refine ⟨h1, fun v hv => ?_, fun i v hv h0 => ?_, ?_⟩
  · simp only [elM, mvM, List.length_append, List.length_singleton] at hv ⊢
    rcases List.mem_append.1 hv with hv | hv
    · have := h2 v hv; omega
    · obtain rfl := List.mem_singleton.1 hv
      show 0 ≤ s ∧ s < m.states ∧ 0 ≤ t ∧ t < m.states ∧ s ≠ 1 ∧ (-1 : Int) ≤ m.elems.length ∧ (m.elems.length : Int) < ((m.elems.length + 1 : Nat) : Int)
      omega
  · simp only [elM, mvM] at hv ⊢
    by_cases hi : i < m.moves.length
    · rw [List.getElem?_append_left hi] at hv
      rw [h3 i v hv h0, List.take_append_of_le_length (by omega)]
    · rw [List.getElem?_append_right (by omega)] at hv
      have hi0 : i = m.moves.length := by
        have := (List.getElem?_eq_some_iff.1 hv).1
        simp only [List.length_singleton] at this; omega
      obtain rfl := List.mem_singleton.1 (List.mem_of_getElem? hv)
      subst hi0
      rw [List.take_left, h4]
  · simp only [elM, mvM, List.length_append, List.length_singleton]
    rw [cnt_app, h4]
    unfold cntM
    rw [List.filter_cons, if_pos (by unfold isEl; simp)]; rfl
theorem inv_st {m : Mach} (h : Inv m) : Inv (stM m) := by
  obtain ⟨h1, h2, h3, h4⟩ := h
  exact ⟨by simp only [stM]; omega, fun v hv => by have := h2 v hv; simp only [stM]; omega, h3, h4⟩
theorem inv_lay : ∀ (p : Pt) (s t : Int) (m : Mach), shapeP p = true → Inv m → (0 ≤ s ∧ s < m.states ∧ s ≠ 1) → (0 ≤ t ∧ t < m.states) → Inv (layM p s t m) := Pt.ind fun p ih s t m hs h hst htt => by
  have hsk := shape_kids hs
  have hup : ∀ (l : List Pt), (∀ k ∈ l, k ∈ p.kids) → ∀ (x : Int × Mach), Inv x.2 → (0 ≤ x.1 ∧ x.1 < x.2.states ∧ x.1 ≠ 1) → m.states ≤ x.2.states → Inv (l.foldl upP x).2 ∧ (0 ≤ (l.foldl upP x).1 ∧ (l.foldl upP x).1 < (l.foldl upP x).2.states ∧ (l.foldl upP x).1 ≠ 1) ∧ m.states ≤ (l.foldl upP x).2.states := by
    intro l
    induction l with
    | nil => intro _ x h1 h2 h3; exact ⟨h1, h2, h3⟩
    | cons k l ihl =>
      intro hl x h1 h2 h3
      rw [List.foldl_cons]
      have hk := hsk k (hl k List.mem_cons_self)
      have a := ih k (hl k List.mem_cons_self) x.1 x.2.states (stM x.2) hk (inv_st h1) (by simp only [stM]; omega) (by have := h1.st; simp only [stM]; omega)
      obtain ⟨⟨_, _, a3, _⟩, _⟩ := lay_gr k x.1 x.2.states (stM x.2) hk
      have hst2 := h1.st
      simp only [stM] at a3
      exact ihl (fun y hy => hl y (List.mem_cons_of_mem _ hy)) (upP x k) a (by simp only [upP, upM, stM]; omega) (by simp only [upP, upM, stM]; omega)
  have halt : ∀ (l : List Pt), (∀ k ∈ l, k ∈ p.kids) → ∀ (m' : Mach), Inv m' → m.states ≤ m'.states → Inv (l.foldl (fun m k => layM k s t m) m') := by
    intro l
    induction l with
    | nil => intro _ x h1 _; exact h1
    | cons k l ihl =>
      intro hl x h1 h2
      rw [List.foldl_cons]
      have hk := hsk k (hl k List.mem_cons_self)
      obtain ⟨⟨_, _, a3, _⟩, _⟩ := lay_gr k s t x hk
      exact ihl (fun y hy => hl y (List.mem_cons_of_mem _ hy)) (layM k s t x) (ih k (hl k List.mem_cons_self) s t x hk h1 (by omega) (by omega)) (by omega)
  rcases shape_kind hs with ⟨hk, hk0⟩ | ⟨hk, hne⟩ | ⟨hk, ⟨k, hkk⟩, hm⟩
  · rw [lay_elem hk]; exact inv_el h hst htt
  · by_cases k3 : p.kind = 3
    · have hlen : 0 < p.kids.length := List.length_pos_iff.2 hne
      obtain ⟨k, hkl⟩ : ∃ k, p.kids[p.kids.length - 1]? = some k := ⟨_, List.getElem?_eq_getElem (by omega)⟩
      rw [lay_seq k3 hkl]
      obtain ⟨a1, a2, a3⟩ := hup (p.kids.take (p.kids.length - 1)) (fun y hy => List.mem_of_mem_take hy) (s, m) h hst (Int.le_refl _)
      have hmm := List.mem_of_getElem? hkl
      exact ih k hmm _ t _ (hsk k hmm) a1 a2 (by omega)
    · rw [lay_alt (by omega)]
      exact halt p.kids (fun _ h => h) m h (Int.le_refl _)
  · have hmem : k ∈ p.kids := by rw [hkk]; exact List.mem_cons_self
    rcases hm with hm | hm
    · rw [lay_opt hk hkk hm]
      exact ih k hmem s t _ (hsk k hmem) (inv_mv h hst htt) hst htt
    · rw [lay_star hk hkk (by omega)]
      have hst2 := h.st
      have h1 : Inv (mvM s m.states (-1) (stM m)) := inv_mv (inv_st h) (by simp only [stM]; omega) (by simp only [stM]; omega)
      obtain ⟨⟨_, _, a3, _⟩, _⟩ := lay_gr k m.states m.states (mvM s m.states (-1) (stM m)) (hsk k hmem)
      simp only [mvM, stM] at a3
      have h2 := ih k hmem m.states m.states (mvM s m.states (-1) (stM m)) (hsk k hmem) h1 (by simp only [mvM, stM]; omega) (by simp only [mvM, stM]; omega)
      exact inv_mv h2 (by simp only [mvM, stM]; omega) (by simp only [mvM, stM]; omega)
theorem inv_zero : Inv ⟨[], [], 2⟩ := ⟨by decide, fun v hv => absurd hv List.not_mem_nil, fun i v hv _ => absurd (List.mem_of_getElem? hv) List.not_mem_nil, rfl⟩
theorem inv_build {p : Pt} (h : shapeP p = true) : Inv (buildM p) := inv_lay p 0 1 ⟨[], [], 2⟩ h inv_zero (by decide) (by decide)
end Go.Proofs.Ytjhkehloipmjfaa
/- The walk of AutoSizes: it returns true, if its names fit into a slice. -/
namespace Go.Proofs.Ytjhkehloipmjfaa
open Go.RowKit
end Go.Proofs.Ytjhkehloipmjfaa
