/- Walks: a pattern's machine is built. -/
import Derived.Test.YtjhkehloipmjfaaGreatQB
import Derived.Test.YtjhkehloipmjfaaGreatQI
namespace Go.Proofs.YtjhkehloipmjfaaGreat
open Go.RowKit
def encA (m : Mach) : List D := [.sl (m.elems.map encP), .sl (m.moves.map encMv), .v (.int .i64 m.states)]
theorem fits_zero {p : Pt} (h : nodesP p ≤ 20000) : fits (nodesP p) ⟨[], [], 2⟩ := ⟨by simpa using h, by simp only [List.length_nil]; omega, by decide, by show (2 : Int) + _ ≤ _; omega⟩
set_option maxRecDepth 100000 in
set_option maxHeartbeats 4000000 in
theorem build_m (p : Pt) (hs : shapeP p = true) (hn : nodesP p ≤ 20000) : CallsM Tryz.prog 11 [.dat (encP p)] [] (.dat (encA (buildM p))) [] := by
  have hL := lay_m p 0 1 ⟨[], [], 2⟩ hs (fits_zero hn)
  unfold buildM
  generalize layM p 0 1 ⟨[], [], 2⟩ = M at hL ⊢
  simp only [autoS, List.map_nil] at hL
  (refine callsM_of_W (Ty := Ty) ty_ok Tryz.func11 rfl rfl rfl (by rfl) fun w0 S0 hp => ?_; simp only [argsF, List.zipIdx_cons, List.zipIdx_nil, List.map_cons, List.map_nil, Nat.zero_add])
  iterate 7 (first | refine W_seq ?_ | refine W_region ?_ | ((first | refine RL_nil ?_ ); (first | change W _ _ _ _ _ )) | (refine isRL ?_; first | refine uBx ?_ | refine uN ?_))
  refine uBdZ ?_
  refine uAlO ?_
  refine uSo ?_
  refine uNilO 3 1001 0 34 20 ?_
  refine uNilO 3 1002 1 68 3 ?_
  refine uRn 3 1000 (pin_none (hp 1000 rfl)) ?_
  repeat' (first | refine W_seq ?_ | refine W_region ?_ | ((first | refine RL_nil ?_ | refine W_ret ?_); (first | change W _ _ _ _ _ | change EndM _ _ _ _ _ _ _ )) | (refine isRL ?_; first | (refine isLd ?_; first | refine uLb ?_ | refine uP ?_) | (refine isCl ?_; first | refine uM (hL) ?_ ) | (refine isSt ?_; first | refine uSw ?_ ) ))
  exact end_m (by rfl) rfl (by (repeat (first | exact gHas_nil _ )))
end Go.Proofs.YtjhkehloipmjfaaGreat
/- Walks: whether a move stays at a node, goes along an edge. -/
namespace Go.Proofs.YtjhkehloipmjfaaGreat
open Go.RowKit
def encR (r : List Bool) : List D := [.sl (r.map encB)]
def fitAt (fit : List (List Bool)) (e x : Int) : Bool := hasB (fit[e.toNat]?.getD []) x.toNat
def staysB (m : Mach) (fit : List (List Bool)) (node : Int) (v : Mv) : Bool := v.elem == -1 || match m.elems[v.elem.toNat]? with
  | none => false
  | some p => p.kind == 1 && fitAt fit v.elem node
def goesB (m : Mach) (fit : List (List Bool)) (edge along : Int) (v : Mv) : Bool := v.elem != -1 && match m.elems[v.elem.toNat]? with
  | none => false
  | some p => p.kind == 2 && fitAt fit v.elem edge && ((IntKind.i64.wrap ((BitVec.ofInt IntKind.i64.bits p.dir &&& BitVec.ofInt IntKind.i64.bits along).toNat : Nat)) != 0)
/-- a table is as large as it must be, for the elements of a kind -/
structure FitOk (kd : Int) (m : Mach) (fit : List (List Bool)) (x : Int) : Prop where
  len : m.elems.length ≤ fit.length
  row : ∀ (i : Nat) (p : Pt) (r : List Bool), m.elems[i]? = some p → p.kind = kd → fit[i]? = some r → x < (r.length : Int)
  pos : 0 ≤ x
def elemOk (m : Mach) (v : Mv) : Prop := v.elem = -1 ∨ (0 ≤ v.elem ∧ v.elem < (m.elems.length : Int))
section
variable {kd : Int} {m : Mach} {fit : List (List Bool)} {x : Int} {v : Mv}
theorem elemOk.get (he : elemOk m v) (h1 : v.elem ≠ -1) : ∃ p, m.elems[v.elem.toNat]? = some p ∧ 0 ≤ v.elem := by
  obtain ⟨a1, a2⟩ := he.resolve_left h1
  exact ⟨_, List.getElem?_eq_getElem (by omega), a1⟩
theorem FitOk.get (h : FitOk kd m fit x) {p : Pt} (hp : m.elems[v.elem.toNat]? = some p) (hk : p.kind = kd) : ∃ (r : List Bool) (b : Bool), fit[v.elem.toNat]? = some r ∧ r[x.toNat]? = some b ∧ fitAt fit v.elem x = b := by
  have hl := h.len
  have hlt : v.elem.toNat < fit.length := by have := (List.getElem?_eq_some_iff.1 hp).1; omega
  have hrow := h.row _ p _ hp hk (List.getElem?_eq_getElem hlt)
  have h0 := h.pos
  have hx : x.toNat < (fit[v.elem.toNat]).length := by omega
  exact ⟨_, _, List.getElem?_eq_getElem hlt, List.getElem?_eq_getElem hx, by unfold fitAt; rw [List.getElem?_eq_getElem hlt]; exact hasB_get (List.getElem?_eq_getElem hx)⟩
end
set_option maxRecDepth 100000 in
set_option maxHeartbeats 4000000 in
theorem stays_v (m : Mach) (fit : List (List Bool)) (v : Mv) (node : Int) (hf : FitOk 1 m fit node) (he : elemOk m v) : CallsV Tryz.prog 37 [.dat (encA m), vL (fit.map encR), .dat (encMv v), vI node] (.val (vB (staysB m fit node v))) := by
  have h0 := hf.pos
  unfold encA encMv
  by_cases h1 : v.elem = -1
  · have e : staysB m fit node v = true := by unfold staysB; rw [h1]; rfl
    rw [e]
    (refine callsV_of_W (Ty := Ty) ty_ok Tryz.func37 rfl rfl rfl fun w0 S0 => ?_; simp only [argsF, List.zipIdx_cons, List.zipIdx_nil, List.map_cons, List.map_nil, Nat.zero_add])
    repeat' (first | refine W_seq ?_ | refine W_region ?_ | ((first | refine RL_nil ?_ | refine W_ret ?_); (first | change W _ _ _ _ _ | change EndQ _ _ _ _ _ _ )) | (refine isRL ?_; first | refine uMv ?_ | refine uAs ?_ | refine uO ?_ | (refine isBin ?_; first | refine uBb true ?_ ) | (refine isLd ?_; first | refine uL1 ?_ ) | (refine isFa ?_; first | refine uP ?_) | refine uP ?_ | refine uBx ?_ ))
    exact end_r (by rfl) rfl
  obtain ⟨p, q1, q5⟩ := he.get h1
  have e1 : staysB m fit node v = (p.kind == 1 && fitAt fit v.elem node) := by
    unfold staysB
    rw [q1, show (v.elem == -1) = false by simpa using h1]; rfl
  rw [e1]
  by_cases hk : p.kind = 1
  · obtain ⟨r, b, q2, q3, q4⟩ := hf.get q1 hk
    rw [q4, show (p.kind == 1) = true by simpa using hk]
    (refine callsV_of_W (Ty := Ty) ty_ok Tryz.func37 rfl rfl rfl fun w0 S0 => ?_; simp only [argsF, List.zipIdx_cons, List.zipIdx_nil, List.map_cons, List.map_nil, Nat.zero_add])
    repeat' (first | refine W_seq ?_ | refine W_region ?_ | ((first | refine RL_nil ?_ | refine W_ret ?_); (first | change W _ _ _ _ _ | change EndQ _ _ _ _ _ _ )) | (refine isRL ?_; first | refine uMv ?_ | refine uAs ?_ | (refine isBin ?_; first | refine uBb true ?_ | refine uBb false ?_ ) | (refine isLd ?_; first | refine uL1 ?_ | refine uL2 ?_ ) | (refine isFa ?_; first | refine uP ?_) | refine uX ?_ | refine uP ?_ | refine uBx ?_ ))
    exact end_r (by rfl) rfl
  · rw [show (p.kind == 1) = false by simpa using hk]
    (refine callsV_of_W (Ty := Ty) ty_ok Tryz.func37 rfl rfl rfl fun w0 S0 => ?_; simp only [argsF, List.zipIdx_cons, List.zipIdx_nil, List.map_cons, List.map_nil, Nat.zero_add])
    repeat' (first | refine W_seq ?_ | refine W_region ?_ | ((first | refine RL_nil ?_ | refine W_ret ?_); (first | change W _ _ _ _ _ | change EndQ _ _ _ _ _ _ )) | (refine isRL ?_; first | refine uMv ?_ | refine uAs ?_ | refine uO ?_ | (refine isBin ?_; first | refine uBb false ?_ ) | (refine isLd ?_; first | refine uL1 ?_ | refine uL2 ?_ ) | (refine isFa ?_; first | refine uP ?_) | refine uX ?_ | refine uP ?_ | refine uBx ?_ ))
    exact end_r (by rfl) rfl
set_option maxRecDepth 100000 in
set_option maxHeartbeats 4000000 in
theorem goes_v (m : Mach) (fit : List (List Bool)) (v : Mv) (edge along : Int) (hf : FitOk 2 m fit edge) (he : elemOk m v) : CallsV Tryz.prog 39 [.dat (encA m), vL (fit.map encR), .dat (encMv v), vI edge, vI along] (.val (vB (goesB m fit edge along v))) := by
  have h0 := hf.pos
  unfold encA encMv
  by_cases h1 : v.elem = -1
  · have e : goesB m fit edge along v = false := by unfold goesB; rw [h1]; rfl
    rw [e]
    (refine callsV_of_W (Ty := Ty) ty_ok Tryz.func39 rfl rfl rfl fun w0 S0 => ?_; simp only [argsF, List.zipIdx_cons, List.zipIdx_nil, List.map_cons, List.map_nil, Nat.zero_add])
    repeat' (first | refine W_seq ?_ | refine W_region ?_ | ((first | refine RL_nil ?_ | refine W_ret ?_); (first | change W _ _ _ _ _ | change EndQ _ _ _ _ _ _ )) | (refine isRL ?_; first | refine uMv ?_ | refine uAs ?_ | refine uO ?_ | (refine isBin ?_; first | refine uBb false ?_ ) | (refine isLd ?_; first | refine uL1 ?_ ) | (refine isFa ?_; first | refine uP ?_) | refine uP ?_ | refine uBx ?_ ))
    exact end_r (by rfl) rfl
  obtain ⟨p, q1, q5⟩ := he.get h1
  have e1 : goesB m fit edge along v = (p.kind == 2 && fitAt fit v.elem edge && ((IntKind.i64.wrap ((BitVec.ofInt IntKind.i64.bits p.dir &&& BitVec.ofInt IntKind.i64.bits along).toNat : Nat)) != 0)) := by
    unfold goesB
    rw [q1, show (v.elem != -1) = true by simpa using h1]; rfl
  rw [e1]
  by_cases hk : p.kind = 2
  · obtain ⟨r, b, q2, q3, q4⟩ := hf.get q1 hk
    rw [q4, show (p.kind == 2) = true by simpa using hk]
    cases b
    all_goals
      (refine callsV_of_W (Ty := Ty) ty_ok Tryz.func39 rfl rfl rfl fun w0 S0 => ?_; simp only [argsF, List.zipIdx_cons, List.zipIdx_nil, List.map_cons, List.map_nil, Nat.zero_add])
      repeat' (first | refine W_seq ?_ | refine W_region ?_ | ((first | refine RL_nil ?_ | refine W_ret ?_); (first | change W _ _ _ _ _ | change EndQ _ _ _ _ _ _ )) | (refine isRL ?_; first | refine uMv ?_ | refine uAs ?_ | refine uO ?_ | (refine isBin ?_; first | refine uBb true ?_ | refine uP ?_) | (refine isLd ?_; first | refine uL1 ?_ | refine uL2 ?_ ) | (refine isFa ?_; first | refine uP ?_) | refine uX ?_ | refine uP ?_ | refine uBx ?_ ))
      exact end_r (by rfl) rfl
  · rw [show (p.kind == 2) = false by simpa using hk]
    (refine callsV_of_W (Ty := Ty) ty_ok Tryz.func39 rfl rfl rfl fun w0 S0 => ?_; simp only [argsF, List.zipIdx_cons, List.zipIdx_nil, List.map_cons, List.map_nil, Nat.zero_add])
    repeat' (first | refine W_seq ?_ | refine W_region ?_ | ((first | refine RL_nil ?_ | refine W_ret ?_); (first | change W _ _ _ _ _ | change EndQ _ _ _ _ _ _ )) | (refine isRL ?_; first | refine uMv ?_ | refine uAs ?_ | refine uO ?_ | (refine isBin ?_; first | refine uBb true ?_ | refine uBb false ?_ ) | (refine isLd ?_; first | refine uL1 ?_ | refine uL2 ?_ ) | (refine isFa ?_; first | refine uP ?_) | refine uX ?_ | refine uP ?_ | refine uBx ?_ ))
    exact end_r (by rfl) rfl
end Go.Proofs.YtjhkehloipmjfaaGreat
/- Walks: a set is closed at a node, goes along an edge. -/
namespace Go.Proofs.YtjhkehloipmjfaaGreat
open Go.RowKit
/-- a machine whose moves lead from states to states that there are -/
structure MachOk (m : Mach) (n : Nat) : Prop where
  st : m.states = (n : Int)
  small : n ≤ 1000000
  mv : m.moves.length ≤ 1000000
  inr : inR m.moves n
  el : ∀ v ∈ m.moves, elemOk m v
theorem foldQ_len (st : Mv → Bool) (f : Int) : ∀ (M : List Mv) (q : Qs), (M.foldl (stepQ st f) q).1.length = q.1.length
  | [], _ => rfl
  | v :: M, q => by
    rw [List.foldl_cons, foldQ_len st f M]
    unfold stepQ
    split
    · split
      · exact enter_len _ _
      · rfl
    · rfl
set_option maxRecDepth 100000 in
set_option maxHeartbeats 16000000 in
theorem close_v (m : Mach) (n : Nat) (fit : List (List Bool)) (s : List Bool) (node : Int) (hm : MachOk m n) (hf : FitOk 1 m fit node) : CallsV Tryz.prog 14 [.dat (encA m), vL (fit.map encR), vL (s.map encB), vI node] (.own 4 1 ((closeB m.moves (staysB m fit node) (hasB s) n).map encB)) := by
  obtain ⟨hst, hn, hml, hL, hel⟩ := hm
  have hsl : (s.map encB).length = s.length := List.length_map _
  have hmm : (m.moves.map encMv).length = m.moves.length := List.length_map _
  have hE := fun (q : Qs) (x : Int) (hl : q.1.length = n) (h0 : 0 ≤ x) (hx : x < n) => enter_m q x n hl h0 hx hn
  have hS := fun (v : Mv) (hv : v ∈ m.moves) => stays_v m fit v node hf (hel v hv)
  unfold closeS at hE
  have hrep : List.replicate n [D.v (.bool false)] = (initQ (hasB s) n 0).1.map encB := by unfold initQ; rw [List.range_zero, List.foldl_nil, List.map_replicate]; rfl
  unfold encA at hS ⊢
  rw [hst] at hS ⊢
  skip
  refine callsV_of_WN (Ty := Ty) ty_ok Tryz.func14 rfl rfl rfl fun w0 S0 _ hp => ?_
  simp only [argsF, List.zipIdx_cons, List.zipIdx_nil, List.map_cons, List.map_nil, Nat.zero_add]
  repeat' (first | refine W_seq ?_ | refine W_region ?_ | ((first | refine RL_nil ?_ ); (first | change W _ _ _ _ _ )) | (refine isRL ?_; first | refine uMk n ?_ | refine uWl ?_ | refine uMv ?_ | refine uAs ?_ | (refine isLd ?_; first | refine uL1 ?_ | refine uP ?_) | (refine isFa ?_; first | refine uP ?_) | (refine isSt ?_; first | refine uSc ?_ ) | refine uP ?_ | refine uBx ?_ | refine uN ?_ ) | refine W_block ?_ )
  rw [hrep]
  refine wRn 9 1001 (pin_none (hp 1001)) ?_
  refine wRn 10 1002 (pin_none (hp 1002)) ?_
  refine wRn 18 1003 (pin_none (hp 1003)) ?_
  refine wNilq (trues (initQ (hasB s) n 0).1) 1002 1004 3 1 ?_
  refine W_for (α := Nat) (fun i => [(1, vL (fit.map encR)), (2, vL (s.map encB)), (3, vI node), (4, .one (.po 4 0)), (9, .one (.po 1001 0)), (10, .one (.po 1002 0)), (11, .one (.fn 35 [1001, 1002])), (21, vI (n : Int)), (22, vI i)]) (fun i => [(4, .box 45 [.sl (m.elems.map encP), .sl (m.moves.map encMv), .v (.int .i64 (n : Int))]), (1001, .cell 52 (.win 1003 0 n n 1)), (1002, .cell 58 (.que 1004 1 (trues (initQ (hasB s) n i).1) ((initQ (hasB s) n i).2.map encI))), (1003, .arr 4 1 ((initQ (hasB s) n i).1.map encB)), (1004, .tok 3 1)]) (fun i => i ≤ n) (fun i => n - i) 0 (Nat.zero_le _) (by (repeat (first | exact sub_nil _ | refine sub_cons (by rfl) ?_))) (by (repeat (first | exact sub_nil _ | refine sub_cons (by rfl) ?_))) ?_
  intro i hi
  obtain ⟨hinv, hbase⟩ := init_inv (st := staysB m fit node) (s := hasB s) hL i hi
  by_cases hlt : i < n
  · have hH := has_v s (i : Int) (by omega)
    rw [Int.toNat_natCast] at hH
    have hnx : initQ (hasB s) n (i + 1) = baseQ (hasB s) (initQ (hasB s) n i) i := init_next _ _ _
    unfold baseQ at hnx
    cases hs : hasB s i with
    | false =>
      rw [hs] at hH
      rw [hs, if_neg (by decide)] at hnx
      repeat' (first | refine W_seq ?_ | refine W_region ?_ | ((first | refine RL_nil ?_ | refine W_skip ?_ ); (first | change W _ _ _ _ _ | change Exists _ )) | (refine isRL ?_; first | refine uMv ?_ | refine uAs ?_ | (refine isBin ?_; first | refine uIb ?_ | refine uBb true ?_ ) | (refine isCl ?_; first | refine uC (hH) ?_ ) ) | refine W_block ?_ | refine wT fun _ => ?_ | refine wF fun _ => ?_ )
      exact ⟨i + 1, by omega, by omega, (by (repeat (first | exact sub_nil _ | refine sub_cons (by rfl) ?_))), (by simp only [hnx]; (repeat (first | exact sub_nil _ | refine sub_cons (by rfl) ?_)))⟩
    | true =>
      rw [hs] at hH
      rw [hs, if_pos rfl] at hnx
      have hEi := hE (initQ (hasB s) n i) (i : Int) hinv.len (by omega) (by omega)
      repeat' (first | refine W_seq ?_ | refine W_region ?_ | ((first | refine RL_nil ?_ | refine W_skip ?_ ); (first | change W _ _ _ _ _ | change Exists _ )) | (refine isRL ?_; first | refine uMv ?_ | refine uAs ?_ | (refine isBin ?_; first | refine uIb ?_ | refine uBb true ?_ ) | (refine isCl ?_; first | refine uC (hH) ?_ | refine uM (hEi) ?_ ) ) | refine W_block ?_ | refine wT fun _ => ?_ )
      exact ⟨i + 1, by omega, by omega, (by (repeat (first | exact sub_nil _ | refine sub_cons (by rfl) ?_))), (by simp only [hnx]; (repeat (first | exact sub_nil _ | refine sub_cons (by rfl) ?_)))⟩
  · obtain rfl : n = i := by omega
    repeat' (first | refine W_seq ?_ | refine W_region ?_ | ((first | refine RL_nil ?_ | refine W_exit ?_ ); (first | change W _ _ _ _ _ )) | (refine isRL ?_; first | (refine isBin ?_; first | refine uBb false ?_ ) ) | refine W_block ?_ | refine wF fun _ => ?_ )
    refine W_for (α := Qs) (fun _ => [(1, vL (fit.map encR)), (2, vL (s.map encB)), (3, vI node), (4, .one (.po 4 0)), (9, .one (.po 1001 0)), (10, .one (.po 1002 0)), (11, .one (.fn 35 [1001, 1002]))]) (fun q => [(4, .box 45 [.sl (m.elems.map encP), .sl (m.moves.map encMv), .v (.int .i64 (n : Int))]), (1001, .cell 52 (.win 1003 0 n n 1)), (1002, .cell 58 (.que 1004 1 (trues q.1) (q.2.map encI))), (1003, .arr 4 1 (q.1.map encB)), (1004, .tok 3 1)]) (fun q => QInv m.moves (staysB m fit node) (hasB s) n (fun _ => False) q ∧ ∀ j, j < n → hasB s j = true → hasB q.1 j = true) (fun q => falses q.1 + q.2.length) (initQ (hasB s) n n) ⟨hinv, hbase⟩ (by (repeat (first | exact sub_nil _ | refine sub_cons (by rfl) ?_))) (by (repeat (first | exact sub_nil _ | refine sub_cons (by rfl) ?_))) ?_
    rintro ⟨out, todo⟩ ⟨hq, hb⟩
    dsimp only at hb ⊢
    cases todo with
    | nil =>
      have hd := close_done hL hq hb
      have hol : out.length = n := hq.len
      iterate 14 (first | refine W_seq ?_ | refine W_region ?_ | ((first | refine RL_nil ?_ | refine W_exit ?_ ); (first | change W _ _ _ _ _ )) | (refine isRL ?_; first | refine uAs ?_ | (refine isBin ?_; first | refine uBb false ?_ ) | (refine isLd ?_; first | refine uP ?_) | (refine isCl ?_; first | refine uP ?_) ) | refine wF fun _ => ?_ )
      refine uArrTok (n := n) (rows := out.map encB) 8 1003 ?_ (by rw [List.length_map]; exact hol.symm) (by rw [List.length_map]; omega)
      repeat' (first | ((first | refine W_ret ?_); (first | change EndQ _ _ _ _ _ _ )) )
      exact end_ro (by rfl) (by rfl) (by rw [hd])
    | cons f r =>
      obtain ⟨hq2, hmu, hmono⟩ := hq.pop hL
      have hol : out.length = n := hq.len
      have hfl : (List.map encI (f :: r)).length = r.length + 1 := by simp
      have htl := trues_le out
      obtain ⟨hf0, hfn, _⟩ := hq.todo f List.mem_cons_self
      have hf2 : (f :: r).length = r.length + 1 := rfl
      repeat' (first | refine W_seq ?_ | refine W_region ?_ | ((first | refine RL_nil ?_ | refine W_skip ?_ ); (first | change W _ _ _ _ _ )) | (refine isRL ?_; first | refine uSlq ?_ | refine uMv ?_ | refine uAs ?_ | (refine isBin ?_; first | refine uBb true ?_ ) | (refine isLd ?_; first | refine uL1 ?_ | refine uL2 ?_ | refine uP ?_) | (refine isCl ?_; first | refine uP ?_) | (refine isFa ?_; first | refine uP ?_) | (refine isSt ?_; first | refine uSc ?_ ) | refine uX ?_ ) | refine W_block ?_ | refine wT fun _ => ?_ )
      refine W_for (α := Nat) (fun i => [(1, vL (fit.map encR)), (2, vL (s.map encB)), (3, vI node), (4, .one (.po 4 0)), (9, .one (.po 1001 0)), (10, .one (.po 1002 0)), (11, .one (.fn 35 [1001, 1002])), (13, vI f), (41, vL (m.moves.map encMv)), (42, vI ((m.moves.map encMv).length : Int)), (43, vI i)]) (fun i => [(4, .box 45 [.sl (m.elems.map encP), .sl (m.moves.map encMv), .v (.int .i64 (n : Int))]), (1001, .cell 52 (.win 1003 0 n n 1)), (1002, .cell 58 (.que 1004 1 (trues ((m.moves.take i).foldl (stepQ (staysB m fit node) f) (out, r)).1) (((m.moves.take i).foldl (stepQ (staysB m fit node) f) (out, r)).2.map encI))), (1003, .arr 4 1 (((m.moves.take i).foldl (stepQ (staysB m fit node) f) (out, r)).1.map encB)), (1004, .tok 3 1)]) (fun i => i ≤ m.moves.length) (fun i => m.moves.length - i) 0 (Nat.zero_le _) (by (repeat (first | exact sub_nil _ | refine sub_cons (by rfl) ?_))) (by (repeat (first | exact sub_nil _ | refine sub_cons (by rfl) ?_))) ?_
      intro i hi
      by_cases hlt : i < m.moves.length
      · obtain ⟨v, hv⟩ : ∃ v, m.moves[i]? = some v := ⟨_, List.getElem?_eq_getElem hlt⟩
        have hvm := List.mem_of_getElem? hv
        have hnx : (m.moves.take (i + 1)).foldl (stepQ (staysB m fit node) f) (out, r) = stepQ (staysB m fit node) f ((m.moves.take i).foldl (stepQ (staysB m fit node) f) (out, r)) v := foldl_next hv
        have hln : ((m.moves.take i).foldl (stepQ (staysB m fit node) f) (out, r)).1.length = n := by rw [foldQ_len]; exact hol
        obtain ⟨b1, b2, b3, b4⟩ := hL v hvm
        have hSv := hS v hvm
        unfold encMv at hSv
        by_cases hc : v.src = f
        · cases hst2 : staysB m fit node v with
          | false =>
            rw [hst2] at hSv
            have e : stepQ (staysB m fit node) f ((m.moves.take i).foldl (stepQ (staysB m fit node) f) (out, r)) v = ((m.moves.take i).foldl (stepQ (staysB m fit node) f) (out, r)) := by unfold stepQ; rw [if_pos hc, if_neg (by rw [hst2]; decide)]
            rw [e] at hnx
            repeat' (first | refine W_seq ?_ | refine W_region ?_ | ((first | refine RL_nil ?_ | refine W_skip ?_ ); (first | change W _ _ _ _ _ | change Exists _ )) | (refine isRL ?_; first | refine uMv ?_ | (refine isBin ?_; first | refine uIb ?_ | refine uBb true ?_ ) | (refine isLd ?_; first | refine uLp ?_ | refine uLb ?_ | refine uL1 ?_ ) | (refine isCl ?_; first | refine uC (hSv) ?_ ) | (refine isFa ?_; first | refine uP ?_) | (refine isSt ?_; first | refine uSw ?_ ) | refine uX ?_ | refine uP ?_ | refine uN ?_ ) | refine W_block ?_ | refine wT fun _ => ?_ | refine wF fun _ => ?_ )
            exact ⟨i + 1, by omega, by omega, (by (repeat (first | exact sub_nil _ | refine sub_cons (by rfl) ?_))), (by simp only [hnx]; (repeat (first | exact sub_nil _ | refine sub_cons (by rfl) ?_)))⟩
          | true =>
            rw [hst2] at hSv
            have e : stepQ (staysB m fit node) f ((m.moves.take i).foldl (stepQ (staysB m fit node) f) (out, r)) v = enterQ ((m.moves.take i).foldl (stepQ (staysB m fit node) f) (out, r)) v.dst := by unfold stepQ; rw [if_pos hc, if_pos hst2]
            rw [e] at hnx
            have hEi := hE ((m.moves.take i).foldl (stepQ (staysB m fit node) f) (out, r)) v.dst hln b3 b4
            repeat' (first | refine W_seq ?_ | refine W_region ?_ | ((first | refine RL_nil ?_ | refine W_skip ?_ ); (first | change W _ _ _ _ _ | change Exists _ )) | (refine isRL ?_; first | refine uMv ?_ | (refine isBin ?_; first | refine uIb ?_ | refine uBb true ?_ ) | (refine isLd ?_; first | refine uLp ?_ | refine uLb ?_ | refine uL1 ?_ ) | (refine isCl ?_; first | refine uC (hSv) ?_ | refine uM (hEi) ?_ ) | (refine isFa ?_; first | refine uP ?_) | (refine isSt ?_; first | refine uSw ?_ ) | refine uX ?_ | refine uP ?_ | refine uN ?_ ) | refine W_block ?_ | refine wT fun _ => ?_ )
            exact ⟨i + 1, by omega, by omega, (by (repeat (first | exact sub_nil _ | refine sub_cons (by rfl) ?_))), (by simp only [hnx]; (repeat (first | exact sub_nil _ | refine sub_cons (by rfl) ?_)))⟩
        · have e : stepQ (staysB m fit node) f ((m.moves.take i).foldl (stepQ (staysB m fit node) f) (out, r)) v = ((m.moves.take i).foldl (stepQ (staysB m fit node) f) (out, r)) := by unfold stepQ; rw [if_neg hc]
          rw [e] at hnx
          repeat' (first | refine W_seq ?_ | refine W_region ?_ | ((first | refine RL_nil ?_ | refine W_skip ?_ ); (first | change W _ _ _ _ _ | change Exists _ )) | (refine isRL ?_; first | refine uMv ?_ | refine uO ?_ | (refine isBin ?_; first | refine uIb ?_ | refine uBb true ?_ | refine uBb false ?_ ) | (refine isLd ?_; first | refine uLp ?_ | refine uL1 ?_ ) | (refine isFa ?_; first | refine uP ?_) | (refine isSt ?_; first | refine uSw ?_ ) | refine uX ?_ | refine uP ?_ | refine uN ?_ ) | refine W_block ?_ | refine wT fun _ => ?_ | refine wF fun _ => ?_ )
          exact ⟨i + 1, by omega, by omega, (by (repeat (first | exact sub_nil _ | refine sub_cons (by rfl) ?_))), (by simp only [hnx]; (repeat (first | exact sub_nil _ | refine sub_cons (by rfl) ?_)))⟩
      · obtain rfl : i = m.moves.length := by omega
        repeat' (first | refine W_seq ?_ | refine W_region ?_ | ((first | refine RL_nil ?_ | refine W_exit ?_ ); (first | change W _ _ _ _ _ | change Exists _ )) | (refine isRL ?_; first | (refine isBin ?_; first | refine uBb false ?_ ) ) | refine wF fun _ => ?_ )
        rw [List.take_length]
        exact ⟨m.moves.foldl (stepQ (staysB m fit node) f) (out, r), by show falses _ + List.length _ < falses out + (f :: r).length; omega, ⟨hq2, fun j hj hs => hmono j (hb j hj hs)⟩, (by (repeat (first | exact sub_nil _ | refine sub_cons (by rfl) ?_))), (by (repeat (first | exact sub_nil _ | refine sub_cons (by rfl) ?_)))⟩
end Go.Proofs.YtjhkehloipmjfaaGreat
