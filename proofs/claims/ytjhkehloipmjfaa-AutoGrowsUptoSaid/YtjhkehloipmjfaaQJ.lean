/- Walks: a pattern's machine is built. -/
import Derived.Test.YtjhkehloipmjfaaQB
import Derived.Test.YtjhkehloipmjfaaQI
namespace Go.Proofs.Ytjhkehloipmjfaa
open Go.RowKit
def encA (m : Mach) : List D := [.sl (m.elems.map encP), .sl (m.moves.map encMv), .v (.int .i64 m.states)]
theorem fits_zero {p : Pt} (h : nodesP p ≤ 20000) : fits (nodesP p) ⟨[], [], 2⟩ := ⟨by simpa using h, by simp only [List.length_nil]; omega, by decide, by show (2 : Int) + _ ≤ _; omega⟩
set_option maxRecDepth 100000 in
set_option maxHeartbeats 4000000 in
theorem build_m (p : Pt) (hs : shapeP p = true) (hn : nodesP p ≤ 20000) : CallsM Try.prog 30 [.dat (encP p)] [] (.dat (encA (buildM p))) [] := by
  have hL := lay_m p 0 1 ⟨[], [], 2⟩ hs (fits_zero hn)
  unfold buildM
  generalize layM p 0 1 ⟨[], [], 2⟩ = M at hL ⊢
  simp only [autoS, List.map_nil] at hL
  (refine callsM_of_W (Ty := Ty) ty_ok Try.func30 rfl rfl rfl (by rfl) fun w0 S0 hp => ?_; simp only [argsF, List.zipIdx_cons, List.zipIdx_nil, List.map_cons, List.map_nil, Nat.zero_add])
  iterate 7 (first | refine W_seq ?_ | refine W_region ?_ | ((first | refine RL_nil ?_ | refine W_skip ?_ | refine W_ret ?_); (first | change W _ _ _ _ _ | change EndM _ _ _ _ _ _ _ | change Exists _ | skip)) | (refine isRL ?_; first | (refine isLd ?_; first | refine uLp ?_ | refine uLb ?_ | refine uL1 ?_ | refine uL2 ?_ | refine uP ?_) | (refine isCl ?_; first | refine uP ?_) | (refine isBd ?_; first | refine uBd ?_ | refine uP ?_) | (refine isSt ?_; first | refine uSw ?_ | refine uS ?_ | refine uSc ?_ | refine uSo ?_) | refine uP ?_ | refine uBx ?_ | refine uN ?_))
  refine uBdZ ?_
  refine uAlO ?_
  refine uSo ?_
  refine uNilO 3 1001 0 53 20 ?_
  refine uNilO 3 1002 1 73 3 ?_
  refine uRn 3 1000 (pin_none (hp 1000 rfl)) ?_
  repeat' (first | refine W_seq ?_ | refine W_region ?_ | ((first | refine RL_nil ?_ | refine W_skip ?_ | refine W_ret ?_); (first | change W _ _ _ _ _ | change EndM _ _ _ _ _ _ _ | change Exists _ | skip)) | (refine isRL ?_; first | (refine isLd ?_; first | refine uLp ?_ | refine uLb ?_ | refine uL1 ?_ | refine uL2 ?_ | refine uP ?_) | (refine isCl ?_; first | refine uM (hL) ?_ | refine uP ?_) | (refine isBd ?_; first | refine uBd ?_ | refine uP ?_) | (refine isSt ?_; first | refine uSw ?_ | refine uS ?_ | refine uSc ?_ | refine uSo ?_) | refine uP ?_ | refine uBx ?_ | refine uN ?_))
  exact end_m (by rfl) rfl (by (repeat (first | exact gHas_nil _ | refine gHas_cons (by rfl) ?_)))
end Go.Proofs.Ytjhkehloipmjfaa
/- Walks: whether a move stays at a node, goes along an edge. -/
namespace Go.Proofs.Ytjhkehloipmjfaa
open Go.RowKit
def encR (r : List Bool) : List D := [.sl (r.map encB)]
def fitAt (fit : List (List Bool)) (e x : Int) : Bool := hasB (fit[e.toNat]?.getD []) x.toNat
def staysB (m : Mach) (fit : List (List Bool)) (node : Int) (v : Mv) : Bool := v.elem == -1 || match m.elems[v.elem.toNat]? with
  | none => false
  | some p => p.kind == 1 && fitAt fit v.elem node
def goesB (m : Mach) (fit : List (List Bool)) (edge along : Int) (v : Mv) : Bool := v.elem != -1 && match m.elems[v.elem.toNat]? with
  | none => false
  | some p => p.kind == 2 && fitAt fit v.elem edge && ((IntKind.i64.wrap ((BitVec.ofInt IntKind.i64.bits p.dir &&& BitVec.ofInt IntKind.i64.bits along).toNat : Nat)) != 0)
/-- a table is as large as it must be -/
structure FitOk (m : Mach) (fit : List (List Bool)) (x : Int) : Prop where
  len : m.elems.length ≤ fit.length
  row : ∀ r ∈ fit, x < (r.length : Int)
  pos : 0 ≤ x
def elemOk (m : Mach) (v : Mv) : Prop := v.elem = -1 ∨ (0 ≤ v.elem ∧ v.elem < (m.elems.length : Int))
section
variable {m : Mach} {fit : List (List Bool)} {x : Int} {v : Mv}
theorem FitOk.get (h : FitOk m fit x) (he : elemOk m v) (h1 : v.elem ≠ -1) : ∃ (p : Pt) (r : List Bool) (b : Bool), m.elems[v.elem.toNat]? = some p ∧ fit[v.elem.toNat]? = some r ∧ r[x.toNat]? = some b ∧ fitAt fit v.elem x = b ∧ 0 ≤ v.elem := by
  obtain ⟨a1, a2⟩ := he.resolve_left h1
  have hl := h.len
  have hlt : v.elem.toNat < fit.length := by omega
  have hrow := h.row _ (List.getElem_mem hlt)
  have h0 := h.pos
  have hx : x.toNat < (fit[v.elem.toNat]).length := by omega
  exact ⟨_, _, _, List.getElem?_eq_getElem (by omega), List.getElem?_eq_getElem hlt, List.getElem?_eq_getElem hx, by unfold fitAt; rw [List.getElem?_eq_getElem hlt]; exact hasB_get (List.getElem?_eq_getElem hx), a1⟩
end
set_option maxRecDepth 100000 in
set_option maxHeartbeats 4000000 in
theorem stays_v (m : Mach) (fit : List (List Bool)) (v : Mv) (node : Int) (hf : FitOk m fit node) (he : elemOk m v) : CallsV Try.prog 62 [.dat (encA m), vL (fit.map encR), .dat (encMv v), vI node] (.val (vB (staysB m fit node v))) := by
  have h0 := hf.pos
  unfold encA encMv
  by_cases h1 : v.elem = -1
  · have e : staysB m fit node v = true := by unfold staysB; rw [h1]; rfl
    rw [e]
    (refine callsV_of_W (Ty := Ty) ty_ok Try.func62 rfl rfl rfl fun w0 S0 => ?_; simp only [argsF, List.zipIdx_cons, List.zipIdx_nil, List.map_cons, List.map_nil, Nat.zero_add])
    repeat' (first | refine W_seq ?_ | refine W_region ?_ | ((first | refine RL_nil ?_ | refine W_skip ?_ | refine W_ret ?_); (first | change W _ _ _ _ _ | change EndQ _ _ _ _ _ _ | change Exists _ | skip)) | (refine isRL ?_; first | refine uMv ?_ | refine uAs ?_ | refine uO ?_ | (refine isBin ?_; first | refine uBb true ?_ | refine uBb false ?_ | refine uP ?_) | (refine isLd ?_; first | refine uLp ?_ | refine uLb ?_ | refine uL1 ?_ | refine uL2 ?_ | refine uP ?_) | (refine isFa ?_; first | refine uP ?_) | refine uX ?_ | refine uP ?_ | refine uBx ?_ | refine uN ?_ | ((first | refine uGsD ?_ ?_ | refine uGsE ?_ ?_ | refine uGsN ?_ ?_ | refine uGsND ?_ ?_ | refine uGsNE ?_ ?_ | refine uGsNB ?_ ?_ | refine uGs ?_ ?_) <;> intro hb)))
    exact end_r (by rfl) rfl
  obtain ⟨p, r, b, q1, q2, q3, q4, q5⟩ := hf.get he h1
  have e1 : staysB m fit node v = (p.kind == 1 && b) := by
    unfold staysB
    rw [q1, q4, show (v.elem == -1) = false by simpa using h1]; rfl
  rw [e1]
  (refine callsV_of_W (Ty := Ty) ty_ok Try.func62 rfl rfl rfl fun w0 S0 => ?_; simp only [argsF, List.zipIdx_cons, List.zipIdx_nil, List.map_cons, List.map_nil, Nat.zero_add])
  by_cases hk : p.kind = 1
  · repeat' (first | refine W_seq ?_ | refine W_region ?_ | ((first | refine RL_nil ?_ | refine W_skip ?_ | refine W_ret ?_); (first | change W _ _ _ _ _ | change EndQ _ _ _ _ _ _ | change Exists _ | skip)) | (refine isRL ?_; first | refine uMv ?_ | refine uAs ?_ | refine uO ?_ | (refine isBin ?_; first | refine uBb true ?_ | refine uBb false ?_ | refine uP ?_) | (refine isLd ?_; first | refine uLp ?_ | refine uLb ?_ | refine uL1 ?_ | refine uL2 ?_ | refine uP ?_) | (refine isFa ?_; first | refine uP ?_) | refine uX ?_ | refine uP ?_ | refine uBx ?_ | refine uN ?_ | ((first | refine uGsD ?_ ?_ | refine uGsE ?_ ?_ | refine uGsN ?_ ?_ | refine uGsND ?_ ?_ | refine uGsNE ?_ ?_ | refine uGsNB ?_ ?_ | refine uGs ?_ ?_) <;> intro hb)))
    exact end_r (by rfl) (by rw [show (p.kind == 1) = true by simpa using hk]; rfl)
  · repeat' (first | refine W_seq ?_ | refine W_region ?_ | ((first | refine RL_nil ?_ | refine W_skip ?_ | refine W_ret ?_); (first | change W _ _ _ _ _ | change EndQ _ _ _ _ _ _ | change Exists _ | skip)) | (refine isRL ?_; first | refine uMv ?_ | refine uAs ?_ | refine uO ?_ | (refine isBin ?_; first | refine uBb true ?_ | refine uBb false ?_ | refine uP ?_) | (refine isLd ?_; first | refine uLp ?_ | refine uLb ?_ | refine uL1 ?_ | refine uL2 ?_ | refine uP ?_) | (refine isFa ?_; first | refine uP ?_) | refine uX ?_ | refine uP ?_ | refine uBx ?_ | refine uN ?_ | ((first | refine uGsD ?_ ?_ | refine uGsE ?_ ?_ | refine uGsN ?_ ?_ | refine uGsND ?_ ?_ | refine uGsNE ?_ ?_ | refine uGsNB ?_ ?_ | refine uGs ?_ ?_) <;> intro hb)))
    exact end_r (by rfl) (by rw [show (p.kind == 1) = false by simpa using hk]; rfl)
set_option maxRecDepth 100000 in
set_option maxHeartbeats 4000000 in
theorem goes_v (m : Mach) (fit : List (List Bool)) (v : Mv) (edge along : Int) (hf : FitOk m fit edge) (he : elemOk m v) : CallsV Try.prog 63 [.dat (encA m), vL (fit.map encR), .dat (encMv v), vI edge, vI along] (.val (vB (goesB m fit edge along v))) := by
  have h0 := hf.pos
  unfold encA encMv
  by_cases h1 : v.elem = -1
  · have e : goesB m fit edge along v = false := by unfold goesB; rw [h1]; rfl
    rw [e]
    (refine callsV_of_W (Ty := Ty) ty_ok Try.func63 rfl rfl rfl fun w0 S0 => ?_; simp only [argsF, List.zipIdx_cons, List.zipIdx_nil, List.map_cons, List.map_nil, Nat.zero_add])
    repeat' (first | refine W_seq ?_ | refine W_region ?_ | ((first | refine RL_nil ?_ | refine W_skip ?_ | refine W_ret ?_); (first | change W _ _ _ _ _ | change EndQ _ _ _ _ _ _ | change Exists _ | skip)) | (refine isRL ?_; first | refine uMv ?_ | refine uAs ?_ | refine uO ?_ | (refine isBin ?_; first | refine uIb ?_ | refine uCat ?_ | refine uBb true ?_ | refine uBb false ?_ | refine uP ?_) | (refine isLd ?_; first | refine uLp ?_ | refine uLb ?_ | refine uL1 ?_ | refine uL2 ?_ | refine uP ?_) | (refine isFa ?_; first | refine uP ?_) | refine uX ?_ | refine uP ?_ | refine uBx ?_ | refine uN ?_ | ((first | refine uGsD ?_ ?_ | refine uGsE ?_ ?_ | refine uGsN ?_ ?_ | refine uGsND ?_ ?_ | refine uGsNE ?_ ?_ | refine uGsNB ?_ ?_ | refine uGs ?_ ?_) <;> intro hb)))
    exact end_r (by rfl) rfl
  obtain ⟨p, r, b, q1, q2, q3, q4, q5⟩ := hf.get he h1
  have e1 : goesB m fit edge along v = (p.kind == 2 && b && ((IntKind.i64.wrap ((BitVec.ofInt IntKind.i64.bits p.dir &&& BitVec.ofInt IntKind.i64.bits along).toNat : Nat)) != 0)) := by
    unfold goesB
    rw [q1, q4, show (v.elem != -1) = true by simpa using h1]; rfl
  rw [e1]
  (refine callsV_of_W (Ty := Ty) ty_ok Try.func63 rfl rfl rfl fun w0 S0 => ?_; simp only [argsF, List.zipIdx_cons, List.zipIdx_nil, List.map_cons, List.map_nil, Nat.zero_add])
  by_cases hk : p.kind = 2
  · rw [show (p.kind == 2) = true by simpa using hk]
    cases b with
    | false =>
      repeat' (first | refine W_seq ?_ | refine W_region ?_ | ((first | refine RL_nil ?_ | refine W_skip ?_ | refine W_ret ?_); (first | change W _ _ _ _ _ | change EndQ _ _ _ _ _ _ | change Exists _ | skip)) | (refine isRL ?_; first | refine uMv ?_ | refine uAs ?_ | refine uO ?_ | (refine isBin ?_; first | refine uIb ?_ | refine uCat ?_ | refine uBb true ?_ | refine uBb false ?_ | refine uP ?_) | (refine isLd ?_; first | refine uLp ?_ | refine uLb ?_ | refine uL1 ?_ | refine uL2 ?_ | refine uP ?_) | (refine isFa ?_; first | refine uP ?_) | refine uX ?_ | refine uP ?_ | refine uBx ?_ | refine uN ?_ | ((first | refine uGsD ?_ ?_ | refine uGsE ?_ ?_ | refine uGsN ?_ ?_ | refine uGsND ?_ ?_ | refine uGsNE ?_ ?_ | refine uGsNB ?_ ?_ | refine uGs ?_ ?_) <;> intro hb)))
      exact end_r (by rfl) rfl
    | true =>
      repeat' (first | refine W_seq ?_ | refine W_region ?_ | ((first | refine RL_nil ?_ | refine W_skip ?_ | refine W_ret ?_); (first | change W _ _ _ _ _ | change EndQ _ _ _ _ _ _ | change Exists _ | skip)) | (refine isRL ?_; first | refine uMv ?_ | refine uAs ?_ | refine uO ?_ | (refine isBin ?_; first | refine uIb ?_ | refine uCat ?_ | refine uBb true ?_ | refine uBb false ?_ | refine uP ?_) | (refine isLd ?_; first | refine uLp ?_ | refine uLb ?_ | refine uL1 ?_ | refine uL2 ?_ | refine uP ?_) | (refine isFa ?_; first | refine uP ?_) | refine uX ?_ | refine uP ?_ | refine uBx ?_ | refine uN ?_ | ((first | refine uGsD ?_ ?_ | refine uGsE ?_ ?_ | refine uGsN ?_ ?_ | refine uGsND ?_ ?_ | refine uGsNE ?_ ?_ | refine uGsNB ?_ ?_ | refine uGs ?_ ?_) <;> intro hb)))
      exact end_r (by rfl) rfl
  · rw [show (p.kind == 2) = false by simpa using hk]
    repeat' (first | refine W_seq ?_ | refine W_region ?_ | ((first | refine RL_nil ?_ | refine W_skip ?_ | refine W_ret ?_); (first | change W _ _ _ _ _ | change EndQ _ _ _ _ _ _ | change Exists _ | skip)) | (refine isRL ?_; first | refine uMv ?_ | refine uAs ?_ | refine uO ?_ | (refine isBin ?_; first | refine uIb ?_ | refine uCat ?_ | refine uBb true ?_ | refine uBb false ?_ | refine uP ?_) | (refine isLd ?_; first | refine uLp ?_ | refine uLb ?_ | refine uL1 ?_ | refine uL2 ?_ | refine uP ?_) | (refine isFa ?_; first | refine uP ?_) | refine uX ?_ | refine uP ?_ | refine uBx ?_ | refine uN ?_ | ((first | refine uGsD ?_ ?_ | refine uGsE ?_ ?_ | refine uGsN ?_ ?_ | refine uGsND ?_ ?_ | refine uGsNE ?_ ?_ | refine uGsNB ?_ ?_ | refine uGs ?_ ?_) <;> intro hb)))
    exact end_r (by rfl) rfl
end Go.Proofs.Ytjhkehloipmjfaa
