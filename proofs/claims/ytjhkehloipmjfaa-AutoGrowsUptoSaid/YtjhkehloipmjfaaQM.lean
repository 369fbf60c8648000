/- The walk of AutoGrows: it returns true, if its names fit into a slice. -/
import Derived.Test.YtjhkehloipmjfaaMV
import Derived.Test.YtjhkehloipmjfaaQH
namespace Go.Proofs.Ytjhkehloipmjfaa
open Go.RowKit
theorem and_leA (n : Int) (c : Nat) (hc : c ≤ 1000) : 0 ≤ (IntKind.i64.wrap ((BitVec.ofInt IntKind.i64.bits n &&& BitVec.ofInt IntKind.i64.bits c).toNat : Nat)) ∧ (IntKind.i64.wrap ((BitVec.ofInt IntKind.i64.bits n &&& BitVec.ofInt IntKind.i64.bits c).toNat : Nat)) ≤ c := by
  have hb : (BitVec.ofInt IntKind.i64.bits n &&& BitVec.ofInt IntKind.i64.bits c).toNat ≤ c := by
    rw [BitVec.toNat_and]
    have : (BitVec.ofInt IntKind.i64.bits c).toNat = c := by
      rw [BitVec.ofInt_natCast, BitVec.toNat_ofNat]
      exact Nat.mod_eq_of_lt (Nat.lt_of_le_of_lt hc (by decide))
    rw [this]
    exact Nat.and_le_right
  generalize (BitVec.ofInt IntKind.i64.bits n &&& BitVec.ofInt IntKind.i64.bits c).toNat = z at hb
  rw [IntWalk.i64_in (z : Int) (by omega)]
  exact ⟨by omega, by omega⟩
section
variable {w0 : W0} {S0 : Nat → Nat → Prop} {nt : Nat} {fr : Fr} {σ : Obs} {o : Oper} {ops : Array Oper} {rest : List Oper} {d : Nat} {t t2 : TypeId} {Q : Fr → Obs → Prop}
theorem uRem {xx yy : Operand} {a b : Int} (h : RL (cx nt w0 S0) ops rest ((d, vI (a.tmod b)) :: fr) σ Q) (ho : o.op = .binOp .rem t xx yy t2 := by rfl) (hdst : o.dst = some d := by rfl) (hd : Nat.blt d nt = true := by rfl) (hw : wantA ops o fr = some true := by rfl) (hx : ev fr xx = some (vI a) := by rfl) (hy : ev fr yy = some (vI b) := by rfl) (hb : b ≠ 0 := by omega) : RL (cx nt w0 S0) ops (o :: rest) fr σ Q :=
  RL_p (X := cx nt w0 S0) (x := vI (a.tmod b)) ty_ok hw hdst hd (by
    unfold aop
    rw [ho]
    simp only [hx, hy, vI, abin, hb, ne_eq, not_false_eq_true, and_self, if_true, Option.map_some]) h
end
def entB (node : Int) (i k : Nat) : Bool := decide (((i : Int) + (k : Int) + (IntKind.i64.wrap ((BitVec.ofInt IntKind.i64.bits node &&& BitVec.ofInt IntKind.i64.bits 3).toNat : Nat))).tmod 3 > 0)
def rowL (node : Int) (i k : Nat) : List Bool := (List.range k).map (entB node i)
def fitL (node : Int) (i : Nat) : List (List Bool) := (List.range i).map fun j => rowL node j 10
theorem row_next (node : Int) (i k : Nat) : (rowL node i k).map encB ++ [encB (entB node i k)] = (rowL node i (k + 1)).map encB := by
  unfold rowL
  rw [List.range_succ, List.map_append, List.map_append]; rfl
theorem row_len (node : Int) (i k : Nat) : (rowL node i k).length = k := by simp [rowL]
theorem fit_next (node : Int) (i : Nat) : (fitL node i).map encR ++ [encR (rowL node i 10)] = (fitL node (i + 1)).map encR := by
  unfold fitL
  rw [List.range_succ, List.map_append, List.map_append]; rfl
theorem fit_len (node : Int) (i : Nat) : (fitL node i).length = i := by simp [fitL]
theorem sized_B (l : List Bool) : sized 1 (l.map encB) = true := by unfold sized; rw [List.all_map]; exact List.all_eq_true.2 fun _ _ => rfl
theorem sized_R (l : List (List Bool)) : sized 1 (l.map encR) = true := by unfold sized; rw [List.all_map]; exact List.all_eq_true.2 fun _ _ => rfl
theorem fit_row (node : Int) (i : Nat) : ∀ r ∈ fitL node i, r.length = 10 := fun r hr => by
  unfold fitL at hr
  obtain ⟨j, _, rfl⟩ := List.mem_map.1 hr
  exact row_len node j 10
/-- a list of truths, set as far as i -/
def setTo (f : Nat → Bool) (n i : Nat) : List Bool := (List.range n).map fun j => decide (j < i) && f j
theorem set_zero (f : Nat → Bool) (n : Nat) : setTo f n 0 = List.replicate n false := by
  unfold setTo
  refine List.ext_getElem? fun j => ?_
  rw [List.getElem?_map, List.getElem?_replicate]
  by_cases h : j < n
  · rw [List.getElem?_range h, if_pos h]; simp
  · rw [List.getElem?_eq_none (by simp; omega), if_neg h]; rfl
theorem set_len (f : Nat → Bool) (n i : Nat) : (setTo f n i).length = n := by simp [setTo]
theorem set_get (f : Nat → Bool) {n i j : Nat} (h : j < n) : (setTo f n i)[j]? = some (decide (j < i) && f j) := by
  unfold setTo
  rw [List.getElem?_map, List.getElem?_range h]; rfl
theorem set_next (f : Nat → Bool) {n i : Nat} (h : i < n) : (setTo f n i).set i (f i) = setTo f n (i + 1) := by
  refine List.ext_getElem? fun j => ?_
  rw [List.getElem?_set]
  by_cases hj : j < n
  · rw [set_get f hj, set_get f hj]
    by_cases e : i = j
    · subst e
      rw [if_pos rfl, if_pos (by rw [set_len]; exact h)]
      simp
    · rw [if_neg e]
      congr 2
      rw [decide_eq_decide]
      omega
  · rw [List.getElem?_eq_none (l := setTo f n (i + 1)) (by rw [set_len]; omega), if_neg (by omega), List.getElem?_eq_none (by rw [set_len]; omega)]
theorem set_has (f : Nat → Bool) {n j : Nat} (h : j < n) : hasB (setTo f n n) j = f j := by
  rw [hasB_get (set_get f h), decide_eq_true h]; simp
theorem tmod_in {a b : Int} (ha : 0 ≤ a) (hb : 0 < b) : 0 ≤ a.tmod b ∧ a.tmod b < b := by
  rw [Int.tmod_eq_emod_of_nonneg ha]
  exact ⟨Int.emod_nonneg _ (by omega), Int.emod_lt_of_pos _ hb⟩
theorem orB {a b c d : Bool} (h : a = c) (k : b = d) : (a || b) = (c || d) := by rw [h, k]
theorem machOk {p : Pt} (hs : shapeP p = true) (hn : nodesP p ≤ 20000) : MachOk (buildM p) (buildM p).states.toNat := by
  have hI := inv_build hs
  obtain ⟨⟨a1, a2, a3, a4⟩, a5⟩ := lay_gr p 0 1 ⟨[], [], 2⟩ hs
  have e : layM p 0 1 ⟨[], [], 2⟩ = buildM p := rfl
  rw [e] at a1 a2 a3 a4 a5
  simp only [List.length_nil] at a1 a2 a3 a4 a5
  have h2 := hI.st
  refine ⟨by omega, by omega, by omega, fun v hv => ?_, fun v hv => ?_⟩
  · have := hI.mv v hv
    omega
  · have := hI.mv v hv
    unfold elemOk
    omega
set_option maxRecDepth 100000 in
set_option maxHeartbeats 16000000 in
theorem grows_w (g : Gr) (p : Pt) (s t : List Bool) (node edge : Int) (hN : ∀ n ∈ g.nodes, n.props.length ≤ 1048576) (hE : ∀ n ∈ g.edges, n.props.length ≤ 1048576) (hvb : (varsP p).length ≤ 1000000) (hsb : s.length ≤ 1048576) (htb : t.length ≤ 1048576) :
    CallsV Try.prog 10 [.dat (encG g), .dat (encP p), vL (s.map encB), vL (t.map encB), vI node, vI edge] (.val (vB true)) := by
  have hS := shown16_v
  have hln : (g.nodes.map encNd).length = g.nodes.length := List.length_map _
  have hle : (g.edges.map encEd).length = g.edges.length := List.length_map _
  by_cases hsm : SmallP g p
  rotate_left
  · have hM := small_no hN hE hvb hsm
    unfold encG at hM ⊢
    (refine callsV_of_W (Ty := Ty) ty_ok Try.func10 rfl rfl rfl fun w0 S0 => ?_; simp only [argsF, List.zipIdx_cons, List.zipIdx_nil, List.map_cons, List.map_nil, Nat.zero_add])
    repeat' (first | refine W_seq ?_ | refine W_region ?_ | ((first | refine RL_nil ?_ | refine W_skip ?_ | refine W_exit ?_ | refine W_ret ?_ | refine mN ?_); (first | change W _ _ _ _ _ | change EndQ _ _ _ _ _ _ | change Exists _ | skip)) | (refine isRL ?_; first | refine uMv ?_ | refine uAs ?_ | refine uO ?_ | (refine isBin ?_; first | refine uIb ?_ | refine uCat ?_ | refine uBb true ?_ | refine uBb false ?_ | refine uP ?_) | (refine isLd ?_; first | refine uLp ?_ | refine uLb ?_ | refine uL1 ?_ | refine uL2 ?_ | refine uP ?_) | (refine isCl ?_; first | refine uC (hS) ?_ | refine uC (hM) ?_ | refine uP ?_ | refine uAk ?_ | refine uA ?_ | refine uA0 ?_ | refine uWl ?_) | (refine isFa ?_; first | refine uP ?_) | (refine isSt ?_; first | refine uSw ?_ | refine uS ?_ | refine uSc ?_) | refine uX ?_ | refine uBu true ?_ | refine uBu false ?_ | refine uBs ?_ | refine uP ?_ | refine uBx ?_ | refine uN ?_ | refine uON ?_ | ((first | refine uGsD ?_ ?_ | refine uGsE ?_ ?_ | refine uGsN ?_ ?_ | refine uGsND ?_ ?_ | refine uGsNE ?_ ?_ | refine uGsNB ?_ ?_ | refine uGs ?_ ?_) <;> intro hb)) | refine W_block ?_ | refine wT fun _ => ?_ | refine wF fun _ => ?_ | refine uAnyL ?_ | refine uAny ?_ | (refine isD ?_; first | refine mMv ?_ | refine mAs ?_ | refine mO ?_ | (refine imBin ?_; first | refine mIb ?_ | refine mCat ?_ | refine mBb true ?_ | refine mBb false ?_ | refine mP ?_) | (refine imLd ?_; first | refine mLp ?_ | refine mLb ?_ | refine mL1 ?_ | refine mL2 ?_ | refine mP ?_) | (refine imCl ?_; first | refine mC (hS) ?_ | refine mC (hM) ?_ | refine mP ?_ | refine mA ?_ | refine mA0 ?_) | (refine imFa ?_; first | refine mP ?_) | refine mX ?_ | refine mBu true ?_ | refine mBu false ?_ | refine mBs ?_ | refine mP ?_ | refine mAl ?_ | refine mSt ?_) | ((first | refine wCsD ?_ ?_ | refine wCsE ?_ ?_ | refine wCsN ?_ ?_ | refine wCsND ?_ ?_ | refine wCsNE ?_ ?_ | refine wCsNB ?_ ?_ | refine wCs ?_ ?_) <;> intro hb))
    exact end_r (by rfl) rfl
  have hM := small_yes hN hE hvb hsm
  by_cases he0 : g.edges.length = 0
  · unfold encG at hM ⊢
    (refine callsV_of_W (Ty := Ty) ty_ok Try.func10 rfl rfl rfl fun w0 S0 => ?_; simp only [argsF, List.zipIdx_cons, List.zipIdx_nil, List.map_cons, List.map_nil, Nat.zero_add])
    repeat' (first | refine W_seq ?_ | refine W_region ?_ | ((first | refine RL_nil ?_ | refine W_skip ?_ | refine W_exit ?_ | refine W_ret ?_ | refine mN ?_); (first | change W _ _ _ _ _ | change EndQ _ _ _ _ _ _ | change Exists _ | skip)) | (refine isRL ?_; first | refine uMv ?_ | refine uAs ?_ | refine uO ?_ | (refine isBin ?_; first | refine uIb ?_ | refine uCat ?_ | refine uBb true ?_ | refine uBb false ?_ | refine uP ?_) | (refine isLd ?_; first | refine uLp ?_ | refine uLb ?_ | refine uL1 ?_ | refine uL2 ?_ | refine uP ?_) | (refine isCl ?_; first | refine uC (hS) ?_ | refine uC (hM) ?_ | refine uP ?_ | refine uAk ?_ | refine uA ?_ | refine uA0 ?_ | refine uWl ?_) | (refine isFa ?_; first | refine uP ?_) | (refine isSt ?_; first | refine uSw ?_ | refine uS ?_ | refine uSc ?_) | refine uX ?_ | refine uBu true ?_ | refine uBu false ?_ | refine uBs ?_ | refine uP ?_ | refine uBx ?_ | refine uN ?_ | refine uON ?_ | ((first | refine uGsD ?_ ?_ | refine uGsE ?_ ?_ | refine uGsN ?_ ?_ | refine uGsND ?_ ?_ | refine uGsNE ?_ ?_ | refine uGsNB ?_ ?_ | refine uGs ?_ ?_) <;> intro hb)) | refine W_block ?_ | refine wT fun _ => ?_ | refine wF fun _ => ?_ | refine uAnyL ?_ | refine uAny ?_ | (refine isD ?_; first | refine mMv ?_ | refine mAs ?_ | refine mO ?_ | (refine imBin ?_; first | refine mIb ?_ | refine mCat ?_ | refine mBb true ?_ | refine mBb false ?_ | refine mP ?_) | (refine imLd ?_; first | refine mLp ?_ | refine mLb ?_ | refine mL1 ?_ | refine mL2 ?_ | refine mP ?_) | (refine imCl ?_; first | refine mC (hS) ?_ | refine mC (hM) ?_ | refine mP ?_ | refine mA ?_ | refine mA0 ?_) | (refine imFa ?_; first | refine mP ?_) | refine mX ?_ | refine mBu true ?_ | refine mBu false ?_ | refine mBs ?_ | refine mP ?_ | refine mAl ?_ | refine mSt ?_) | ((first | refine wCsD ?_ ?_ | refine wCsE ?_ ?_ | refine wCsN ?_ ?_ | refine wCsND ?_ ?_ | refine wCsNE ?_ ?_ | refine wCsNB ?_ ?_ | refine wCs ?_ ?_) <;> intro hb))
    exact end_r (by rfl) rfl
  obtain ⟨hr, hs⟩ := check_ok hsm.check
  dsimp only at hr hs
  have hNo := refNormal_v p hr (by omega)
  have hsh := shape_normal p hr
  have hnn := nodes_normal p hr
  have hB := (build_m (normal p) hsh (by omega)).toV
  have hok := machOk hsh (by omega)
  have hem : (buildM (normal p)).elems.length ≤ 20000 := by
    obtain ⟨⟨a1, _, _, _⟩, _⟩ := lay_gr (normal p) 0 1 ⟨[], [], 2⟩ hsh
    have e : layM (normal p) 0 1 ⟨[], [], 2⟩ = buildM (normal p) := rfl
    rw [e] at a1
    simp only [List.length_nil] at a1
    omega
  generalize hG : buildM (normal p) = m at hB hok hem
  generalize hn : m.states.toNat = n at hok
  have hst := hok.st
  have hn6 := hok.small
  obtain ⟨n8, n0, e10, _, _, _, _⟩ := hsm
  have hlm : (m.elems.map encP).length = m.elems.length := List.length_map _
  unfold encA at hB
  rw [hst] at hB
  unfold encG at hM ⊢
  (refine callsV_of_W (Ty := Ty) ty_ok Try.func10 rfl rfl rfl fun w0 S0 => ?_; simp only [argsF, List.zipIdx_cons, List.zipIdx_nil, List.map_cons, List.map_nil, Nat.zero_add])
  repeat' (first | refine W_seq ?_ | refine W_region ?_ | ((first | refine RL_nil ?_ | refine W_skip ?_ | refine W_exit ?_ | refine W_ret ?_ | refine mN ?_); (first | change W _ _ _ _ _ | change EndQ _ _ _ _ _ _ | change Exists _ | skip)) | (refine isRL ?_; first | refine uMv ?_ | refine uAs ?_ | refine uO ?_ | (refine isBin ?_; first | refine uIb ?_ | refine uCat ?_ | refine uBb true ?_ | refine uBb false ?_ | refine uP ?_) | (refine isLd ?_; first | refine uLp ?_ | refine uLb ?_ | refine uL1 ?_ | refine uL2 ?_ | refine uP ?_) | (refine isCl ?_; first | refine uC (hS) ?_ | refine uC (hM) ?_ | refine uC (hNo) ?_ | refine uC (hB) ?_ | refine uP ?_ | refine uAk ?_ | refine uA ?_ | refine uA0 ?_ | refine uWl ?_) | (refine isFa ?_; first | refine uP ?_) | (refine isSt ?_; first | refine uSw ?_ | refine uS ?_ | refine uSc ?_) | refine uX ?_ | refine uBu true ?_ | refine uBu false ?_ | refine uBs ?_ | refine uP ?_ | refine uBx ?_ | refine uN ?_ | refine uON ?_ | ((first | refine uGsD ?_ ?_ | refine uGsE ?_ ?_ | refine uGsN ?_ ?_ | refine uGsND ?_ ?_ | refine uGsNE ?_ ?_ | refine uGsNB ?_ ?_ | refine uGs ?_ ?_) <;> intro hb)) | refine W_block ?_ | refine wT fun _ => ?_ | refine wF fun _ => ?_ | refine uAnyL ?_ | refine uAny ?_ | (refine isD ?_; first | refine mMv ?_ | refine mAs ?_ | refine mO ?_ | (refine imBin ?_; first | refine mIb ?_ | refine mCat ?_ | refine mBb true ?_ | refine mBb false ?_ | refine mP ?_) | (refine imLd ?_; first | refine mLp ?_ | refine mLb ?_ | refine mL1 ?_ | refine mL2 ?_ | refine mP ?_) | (refine imCl ?_; first | refine mC (hS) ?_ | refine mC (hM) ?_ | refine mC (hNo) ?_ | refine mC (hB) ?_ | refine mP ?_ | refine mA ?_ | refine mA0 ?_) | (refine imFa ?_; first | refine mP ?_) | refine mX ?_ | refine mBu true ?_ | refine mBu false ?_ | refine mBs ?_ | refine mP ?_ | refine mAl ?_ | refine mSt ?_) | ((first | refine wCsD ?_ ?_ | refine wCsE ?_ ?_ | refine wCsN ?_ ?_ | refine wCsND ?_ ?_ | refine wCsNE ?_ ?_ | refine wCsNB ?_ ?_ | refine wCs ?_ ?_) <;> intro hb))
  refine W_for (α := Nat) (fun i => [(2, vL (s.map encB)), (3, vL (t.map encB)), (4, vI node), (5, vI edge), (6, .one (.po 6 0)), (13, vB true), (15, .one (.po 15 0)), (16, .one (.own 47 ((fitL node i).map encR))), (17, vI i)]) (fun i => [(6, .box 78 [.sl (g.nodes.map encNd), .sl (g.edges.map encEd)]), (15, .box 66 [.sl (m.elems.map encP), .sl (m.moves.map encMv), .v (.int .i64 (n : Int))]), (47, .tok 45 1)]) (fun i => i ≤ m.elems.length) (fun i => m.elems.length - i) 0 (Nat.zero_le _) (by (repeat (first | exact sub_nil _ | refine sub_cons (by rfl) ?_))) (by (repeat (first | exact sub_nil _ | refine sub_cons (by rfl) ?_))) ?_
  intro i hi
  by_cases hlt : i < m.elems.length
  · obtain ⟨q, hq⟩ : ∃ q, m.elems[i]? = some q := ⟨_, List.getElem?_eq_getElem hlt⟩
    repeat' (first | refine W_seq ?_ | refine W_region ?_ | ((first | refine RL_nil ?_ | refine W_skip ?_ | refine W_exit ?_ | refine W_ret ?_ | refine mN ?_); (first | change W _ _ _ _ _ | change EndQ _ _ _ _ _ _ | change Exists _ | skip)) | (refine isRL ?_; first | refine uMv ?_ | refine uAs ?_ | refine uO ?_ | (refine isBin ?_; first | refine uIb ?_ | refine uCat ?_ | refine uBb true ?_ | refine uBb false ?_ | refine uP ?_) | (refine isLd ?_; first | refine uLp ?_ | refine uLb ?_ | refine uL1 ?_ | refine uL2 ?_ | refine uP ?_) | (refine isCl ?_; first | refine uP ?_ | refine uAk ?_ | refine uA ?_ | refine uA0 ?_ | refine uWl ?_) | (refine isFa ?_; first | refine uP ?_) | (refine isSt ?_; first | refine uSw ?_ | refine uS ?_ | refine uSc ?_) | refine uX ?_ | refine uBu true ?_ | refine uBu false ?_ | refine uBs ?_ | refine uP ?_ | refine uBx ?_ | refine uN ?_ | refine uON ?_ | ((first | refine uGsD ?_ ?_ | refine uGsE ?_ ?_ | refine uGsN ?_ ?_ | refine uGsND ?_ ?_ | refine uGsNE ?_ ?_ | refine uGsNB ?_ ?_ | refine uGs ?_ ?_) <;> intro hb)) | refine W_block ?_ | refine wT fun _ => ?_ | refine wF fun _ => ?_ | refine uAnyL ?_ | refine uAny ?_ | (refine isD ?_; first | refine mMv ?_ | refine mAs ?_ | refine mO ?_ | (refine imBin ?_; first | refine mIb ?_ | refine mCat ?_ | refine mBb true ?_ | refine mBb false ?_ | refine mP ?_) | (refine imLd ?_; first | refine mLp ?_ | refine mLb ?_ | refine mL1 ?_ | refine mL2 ?_ | refine mP ?_) | (refine imCl ?_; first | refine mP ?_ | refine mA ?_ | refine mA0 ?_) | (refine imFa ?_; first | refine mP ?_) | refine mX ?_ | refine mBu true ?_ | refine mBu false ?_ | refine mBs ?_ | refine mP ?_ | refine mAl ?_ | refine mSt ?_) | ((first | refine wCsD ?_ ?_ | refine wCsE ?_ ?_ | refine wCsN ?_ ?_ | refine wCsND ?_ ?_ | refine wCsNE ?_ ?_ | refine wCsNB ?_ ?_ | refine wCs ?_ ?_) <;> intro hb))
    refine W_for (α := Nat) (fun k => [(2, vL (s.map encB)), (3, vL (t.map encB)), (4, vI node), (5, vI edge), (6, .one (.po 6 0)), (13, vB true), (15, .one (.po 15 0)), (16, .one (.own 47 ((fitL node i).map encR))), (17, vI i), (18, .one (.own 55 ((rowL node i k).map encB))), (19, vI k)]) (fun k => [(6, .box 78 [.sl (g.nodes.map encNd), .sl (g.edges.map encEd)]), (15, .box 66 [.sl (m.elems.map encP), .sl (m.moves.map encMv), .v (.int .i64 (n : Int))]), (47, .tok 45 1), (55, .tok 4 1)]) (fun k => k ≤ 10) (fun k => 10 - k) 0 (Nat.zero_le _) (by (repeat (first | exact sub_nil _ | refine sub_cons (by rfl) ?_))) (by (repeat (first | exact sub_nil _ | refine sub_cons (by rfl) ?_))) ?_
    intro k hk
    by_cases hkt : k < 10
    · have hc3 : 0 ≤ (IntKind.i64.wrap ((BitVec.ofInt IntKind.i64.bits node &&& BitVec.ofInt IntKind.i64.bits 3).toNat : Nat)) ∧ (IntKind.i64.wrap ((BitVec.ofInt IntKind.i64.bits node &&& BitVec.ofInt IntKind.i64.bits 3).toNat : Nat)) ≤ 3 := and_leA node 3 (by decide)
      obtain ⟨c0, c3⟩ := hc3
      have hnx := row_next node i k
      have hz := sized_B (rowL node i k)
      have hrl := row_len node i k
      have hrm : ((rowL node i k).map encB).length = k := by rw [List.length_map]; exact hrl
      repeat' (first | refine W_seq ?_ | refine W_region ?_ | ((first | refine RL_nil ?_ | refine W_skip ?_ | refine W_exit ?_ | refine W_ret ?_ | refine mN ?_); (first | change W _ _ _ _ _ | change EndQ _ _ _ _ _ _ | change Exists _ | skip)) | (refine isRL ?_; first | refine uMv ?_ | refine uAs ?_ | refine uO ?_ | (refine isBin ?_; first | refine uIb ?_ | refine uCat ?_ | refine uBb true ?_ | refine uBb false ?_ | refine uP ?_) | (refine isLd ?_; first | refine uLp ?_ | refine uLb ?_ | refine uL1 ?_ | refine uL2 ?_ | refine uP ?_) | (refine isCl ?_; first | refine uP ?_ | refine uAk ?_ | refine uA ?_ | refine uA0 ?_ | refine uWl ?_) | (refine isFa ?_; first | refine uP ?_) | (refine isSt ?_; first | refine uSw ?_ | refine uS ?_ | refine uSc ?_) | refine uX ?_ | refine uBu true ?_ | refine uBu false ?_ | refine uBs ?_ | refine uP ?_ | refine uBx ?_ | refine uN ?_ | refine uON ?_ | ((first | refine uGsD ?_ ?_ | refine uGsE ?_ ?_ | refine uGsN ?_ ?_ | refine uGsND ?_ ?_ | refine uGsNE ?_ ?_ | refine uGsNB ?_ ?_ | refine uGs ?_ ?_) <;> intro hb)) | refine W_block ?_ | refine wT fun _ => ?_ | refine wF fun _ => ?_ | refine uAnyL ?_ | refine uAny ?_ | (refine isD ?_; first | refine mMv ?_ | refine mAs ?_ | refine mO ?_ | (refine imBin ?_; first | refine mIb ?_ | refine mCat ?_ | refine mBb true ?_ | refine mBb false ?_ | refine mP ?_) | (refine imLd ?_; first | refine mLp ?_ | refine mLb ?_ | refine mL1 ?_ | refine mL2 ?_ | refine mP ?_) | (refine imCl ?_; first | refine mP ?_ | refine mA ?_ | refine mA0 ?_) | (refine imFa ?_; first | refine mP ?_) | refine mX ?_ | refine mBu true ?_ | refine mBu false ?_ | refine mBs ?_ | refine mP ?_ | refine mAl ?_ | refine mSt ?_) | ((first | refine wCsD ?_ ?_ | refine wCsE ?_ ?_ | refine wCsN ?_ ?_ | refine wCsND ?_ ?_ | refine wCsNE ?_ ?_ | refine wCsNB ?_ ?_ | refine wCs ?_ ?_) <;> intro hb))
      exact ⟨k + 1, by omega, by omega, (by (repeat (first | exact sub_nil _ | refine sub_cons (by rfl) ?_))), (by (repeat (first | exact sub_nil _ | refine sub_cons (by rfl) ?_)))⟩
    · obtain rfl : k = 10 := by omega
      have hnx := fit_next node i
      have hz := sized_R (fitL node i)
      have hfl := fit_len node i
      have hfm : ((fitL node i).map encR).length = i := by rw [List.length_map]; exact hfl
      repeat' (first | refine W_seq ?_ | refine W_region ?_ | ((first | refine RL_nil ?_ | refine W_skip ?_ | refine W_exit ?_ | refine W_ret ?_ | refine mN ?_); (first | change W _ _ _ _ _ | change EndQ _ _ _ _ _ _ | change Exists _ | skip)) | (refine isRL ?_; first | refine uMv ?_ | refine uAs ?_ | refine uO ?_ | (refine isBin ?_; first | refine uIb ?_ | refine uCat ?_ | refine uBb true ?_ | refine uBb false ?_ | refine uP ?_) | (refine isLd ?_; first | refine uLp ?_ | refine uLb ?_ | refine uL1 ?_ | refine uL2 ?_ | refine uP ?_) | (refine isCl ?_; first | refine uP ?_ | refine uAk ?_ | refine uA ?_ | refine uA0 ?_ | refine uWl ?_) | (refine isFa ?_; first | refine uP ?_) | (refine isSt ?_; first | refine uSw ?_ | refine uS ?_ | refine uSc ?_) | refine uX ?_ | refine uBu true ?_ | refine uBu false ?_ | refine uBs ?_ | refine uP ?_ | refine uBx ?_ | refine uN ?_ | refine uON ?_ | ((first | refine uGsD ?_ ?_ | refine uGsE ?_ ?_ | refine uGsN ?_ ?_ | refine uGsND ?_ ?_ | refine uGsNE ?_ ?_ | refine uGsNB ?_ ?_ | refine uGs ?_ ?_) <;> intro hb)) | refine W_block ?_ | refine wT fun _ => ?_ | refine wF fun _ => ?_ | refine uAnyL ?_ | refine uAny ?_ | (refine isD ?_; first | refine mMv ?_ | refine mAs ?_ | refine mO ?_ | (refine imBin ?_; first | refine mIb ?_ | refine mCat ?_ | refine mBb true ?_ | refine mBb false ?_ | refine mP ?_) | (refine imLd ?_; first | refine mLp ?_ | refine mLb ?_ | refine mL1 ?_ | refine mL2 ?_ | refine mP ?_) | (refine imCl ?_; first | refine mP ?_ | refine mA ?_ | refine mA0 ?_) | (refine imFa ?_; first | refine mP ?_) | refine mX ?_ | refine mBu true ?_ | refine mBu false ?_ | refine mBs ?_ | refine mP ?_ | refine mAl ?_ | refine mSt ?_) | ((first | refine wCsD ?_ ?_ | refine wCsE ?_ ?_ | refine wCsN ?_ ?_ | refine wCsND ?_ ?_ | refine wCsNE ?_ ?_ | refine wCsNB ?_ ?_ | refine wCs ?_ ?_) <;> intro hb))
      exact ⟨i + 1, by omega, by omega, (by (repeat (first | exact sub_nil _ | refine sub_cons (by rfl) ?_))), (by (repeat (first | exact sub_nil _ | refine sub_cons (by rfl) ?_)))⟩
  · obtain rfl : i = m.elems.length := by omega
    have hc1 : 0 ≤ (IntKind.i64.wrap ((BitVec.ofInt IntKind.i64.bits node &&& BitVec.ofInt IntKind.i64.bits 255).toNat : Nat)) ∧ (IntKind.i64.wrap ((BitVec.ofInt IntKind.i64.bits node &&& BitVec.ofInt IntKind.i64.bits 255).toNat : Nat)) ≤ 255 := and_leA node 255 (by decide)
    obtain ⟨c0, c1⟩ := hc1
    have hd1 : 0 ≤ (IntKind.i64.wrap ((BitVec.ofInt IntKind.i64.bits edge &&& BitVec.ofInt IntKind.i64.bits 255).toNat : Nat)) ∧ (IntKind.i64.wrap ((BitVec.ofInt IntKind.i64.bits edge &&& BitVec.ofInt IntKind.i64.bits 255).toNat : Nat)) ≤ 255 := and_leA edge 255 (by decide)
    obtain ⟨d0, d1⟩ := hd1
    repeat' (first | refine W_seq ?_ | refine W_region ?_ | ((first | refine RL_nil ?_ | refine W_skip ?_ | refine W_exit ?_ | refine W_ret ?_ | refine mN ?_); (first | change W _ _ _ _ _ | change EndQ _ _ _ _ _ _ | change Exists _ | skip)) | (refine isRL ?_; first | refine uMk n ?_ | refine uRem ?_ | refine uMv ?_ | refine uAs ?_ | refine uO ?_ | (refine isBin ?_; first | refine uIb ?_ | refine uCat ?_ | refine uBb true ?_ | refine uBb false ?_ | refine uP ?_) | (refine isLd ?_; first | refine uLp ?_ | refine uLb ?_ | refine uL1 ?_ | refine uL2 ?_ | refine uP ?_) | (refine isCl ?_; first | refine uP ?_ | refine uAk ?_ | refine uA ?_ | refine uA0 ?_ | refine uWl ?_) | (refine isFa ?_; first | refine uP ?_) | (refine isSt ?_; first | refine uSw ?_ | refine uS ?_ | refine uSc ?_) | refine uX ?_ | refine uBu true ?_ | refine uBu false ?_ | refine uBs ?_ | refine uP ?_ | refine uBx ?_ | refine uN ?_ | refine uON ?_ | ((first | refine uGsD ?_ ?_ | refine uGsE ?_ ?_ | refine uGsN ?_ ?_ | refine uGsND ?_ ?_ | refine uGsNE ?_ ?_ | refine uGsNB ?_ ?_ | refine uGs ?_ ?_) <;> intro hb)) | refine W_block ?_ | refine wT fun _ => ?_ | refine wF fun _ => ?_ | refine uAnyL ?_ | refine uAny ?_ | (refine isD ?_; first | refine mMv ?_ | refine mAs ?_ | refine mO ?_ | (refine imBin ?_; first | refine mIb ?_ | refine mCat ?_ | refine mBb true ?_ | refine mBb false ?_ | refine mP ?_) | (refine imLd ?_; first | refine mLp ?_ | refine mLb ?_ | refine mL1 ?_ | refine mL2 ?_ | refine mP ?_) | (refine imCl ?_; first | refine mP ?_ | refine mA ?_ | refine mA0 ?_) | (refine imFa ?_; first | refine mP ?_) | refine mX ?_ | refine mBu true ?_ | refine mBu false ?_ | refine mBs ?_ | refine mP ?_ | refine mAl ?_ | refine mSt ?_) | ((first | refine wCsD ?_ ?_ | refine wCsE ?_ ?_ | refine wCsN ?_ ?_ | refine wCsND ?_ ?_ | refine wCsNE ?_ ?_ | refine wCsNB ?_ ?_ | refine wCs ?_ ?_) <;> intro hb))
    have hnd := tmod_in (a := (IntKind.i64.wrap ((BitVec.ofInt IntKind.i64.bits node &&& BitVec.ofInt IntKind.i64.bits 255).toNat : Nat))) (b := ((g.nodes.map encNd).length : Int)) c0 (by omega)
    have hed := tmod_in (a := (IntKind.i64.wrap ((BitVec.ofInt IntKind.i64.bits edge &&& BitVec.ofInt IntKind.i64.bits 255).toNat : Nat))) (b := ((g.edges.map encEd).length : Int)) d0 (by omega)
    have hrow : ∀ r ∈ fitL node m.elems.length, r.length = 10 := fit_row node _
    have hfl := fit_len node m.elems.length
    generalize ((IntKind.i64.wrap ((BitVec.ofInt IntKind.i64.bits node &&& BitVec.ofInt IntKind.i64.bits 255).toNat : Nat))).tmod ((g.nodes.map encNd).length : Int) = nd at hnd ⊢
    generalize ((IntKind.i64.wrap ((BitVec.ofInt IntKind.i64.bits edge &&& BitVec.ofInt IntKind.i64.bits 255).toNat : Nat))).tmod ((g.edges.map encEd).length : Int) = ed at hed ⊢
    generalize fitL node m.elems.length = fit at hrow hfl ⊢
    have hrep : ∀ f : Nat → Bool, List.replicate n [D.v (.bool false)] = (setTo f n 0).map encB := fun f => by rw [set_zero, List.map_replicate]; rfl
    refine W_for (α := Nat) (fun i => [(2, vL (s.map encB)), (3, vL (t.map encB)), (4, vI nd), (5, vI ed), (13, vB true), (15, .one (.po 15 0)), (16, .one (.own 47 (fit.map encR))), (20, .one (.win 89 0 n n 1)), (21, .one (.win 92 0 n n 1)), (22, .one (.win 95 0 n n 1)), (23, vI i)]) (fun i => [(6, .box 78 [.sl (g.nodes.map encNd), .sl (g.edges.map encEd)]), (15, .box 66 [.sl (m.elems.map encP), .sl (m.moves.map encMv), .v (.int .i64 (n : Int))]), (47, .tok 45 1), (89, .arr 4 1 ((setTo (hasB s) n i).map encB)), (92, .arr 4 1 ((setTo (hasB t) n i).map encB)), (95, .arr 4 1 ((setTo (fun j => hasB s j || hasB t j) n i).map encB))]) (fun i => i ≤ n) (fun i => n - i) 0 (Nat.zero_le _) (by (repeat (first | exact sub_nil _ | refine sub_cons (by rfl) ?_))) (by simp only [hrep (hasB s), hrep (hasB t)]; (repeat (first | exact sub_nil _ | refine sub_cons (by rfl) ?_))) ?_
    have hput : ∀ (f : Nat → Bool) (i : Nat), i < n → ∀ b : Bool, f i = b → ((setTo f n i).map encB).take (0 + ((i : Int)).toNat) ++ [[.v (.bool b)]] ++ ((setTo f n i).map encB).drop (0 + ((i : Int)).toNat + 1) = (setTo f n (i + 1)).map encB := fun f i hi b hb => by
      rw [upd_B b (by rw [set_len, Int.toNat_natCast]; exact hi), Int.toNat_natCast, ← hb, set_next f hi]
    have hgetR : ∀ (f : Nat → Bool) (i : Nat), i < n → ∀ b : Bool, f i = b → ((setTo f n (i + 1)).map encB)[0 + ((i : Int)).toNat]? = some [.v (.bool b)] := fun f i hi b hb => by
      rw [Nat.zero_add, Int.toNat_natCast, List.getElem?_map, set_get f hi, decide_eq_true (Nat.lt_succ_self i), Bool.true_and, hb]; rfl
    have three : ∀ (l : List Bool) (i : Nat), (i < l.length ∧ l[i]? = some true ∧ hasB l i = true) ∨ (i < l.length ∧ l[i]? = some false ∧ hasB l i = false) ∨ (¬ i < l.length ∧ l[i]? = none ∧ hasB l i = false) := fun l i => by
      by_cases h : i < l.length
      · have e := List.getElem?_eq_getElem h
        cases hb : l[i] with
        | true => rw [hb] at e; exact .inl ⟨h, e, hasB_get e⟩
        | false => rw [hb] at e; exact .inr (.inl ⟨h, e, hasB_get e⟩)
      · have e : l[i]? = none := List.getElem?_eq_none (by omega)
        exact .inr (.inr ⟨h, e, by unfold hasB; rw [e]; rfl⟩)
    intro i hi
    by_cases hlt : i < n
    · have hsl : (s.map encB).length = s.length := List.length_map _
      have htl : (t.map encB).length = t.length := List.length_map _
      have l1 : ∀ f : Nat → Bool, 0 + ((i : Int)).toNat < ((setTo f n i).map encB).length := fun f => by rw [List.length_map, set_len, Nat.zero_add, Int.toNat_natCast]; exact hlt
      rcases three s i with ⟨a1, a2, a3⟩ | ⟨a1, a2, a3⟩ | ⟨a1, a2, a3⟩ <;> rcases three t i with ⟨b1, b2, b3⟩ | ⟨b1, b2, b3⟩ | ⟨b1, b2, b3⟩
      all_goals
        have c3 := orB a3 b3
        repeat' (first | refine W_seq ?_ | refine W_region ?_ | ((first | refine RL_nil ?_ | refine W_skip ?_ | refine W_exit ?_ | refine W_ret ?_ | refine mN ?_); (first | change W _ _ _ _ _ | change EndQ _ _ _ _ _ _ | change Exists _ | skip)) | (refine isRL ?_; first | refine uWix ?_ | refine uPev _ ?_ (hrows := hput (hasB s) i hlt _ a3) (hm := l1 _) | refine uPev _ ?_ (hrows := hput (hasB t) i hlt _ b3) (hm := l1 _) | refine uPev _ ?_ (hrows := hput (fun j => hasB s j || hasB t j) i hlt _ c3) (hm := l1 _) | refine uPelv _ ?_ (hgetR (hasB s) i hlt _ a3) | refine uPelv _ ?_ (hgetR (hasB t) i hlt _ b3) | refine uMv ?_ | refine uAs ?_ | refine uO ?_ | (refine isBin ?_; first | refine uIb ?_ | refine uCat ?_ | refine uBb true ?_ | refine uBb false ?_ | refine uP ?_) | (refine isLd ?_; first | refine uLp ?_ | refine uLb ?_ | refine uL1 ?_ | refine uL2 ?_ | refine uP ?_) | (refine isCl ?_; first | refine uP ?_ | refine uAk ?_ | refine uA ?_ | refine uA0 ?_ | refine uWl ?_) | (refine isFa ?_; first | refine uP ?_) | (refine isSt ?_; first | refine uSw ?_ | refine uS ?_ | refine uSc ?_) | refine uX ?_ | refine uBu true ?_ | refine uBu false ?_ | refine uBs ?_ | refine uP ?_ | refine uBx ?_ | refine uN ?_ | refine uON ?_ | ((first | refine uGsD ?_ ?_ | refine uGsE ?_ ?_ | refine uGsN ?_ ?_ | refine uGsND ?_ ?_ | refine uGsNE ?_ ?_ | refine uGsNB ?_ ?_ | refine uGs ?_ ?_) <;> intro hb)) | refine W_block ?_ | refine wT fun _ => ?_ | refine wF fun _ => ?_ | refine uAnyL ?_ | refine uAny ?_ | (refine isD ?_; first | refine mMv ?_ | refine mAs ?_ | refine mO ?_ | (refine imBin ?_; first | refine mIb ?_ | refine mCat ?_ | refine mBb true ?_ | refine mBb false ?_ | refine mP ?_) | (refine imLd ?_; first | refine mLp ?_ | refine mLb ?_ | refine mL1 ?_ | refine mL2 ?_ | refine mP ?_) | (refine imCl ?_; first | refine mP ?_ | refine mA ?_ | refine mA0 ?_) | (refine imFa ?_; first | refine mP ?_) | refine mX ?_ | refine mBu true ?_ | refine mBu false ?_ | refine mBs ?_ | refine mP ?_ | refine mAl ?_ | refine mSt ?_) | ((first | refine wCsD ?_ ?_ | refine wCsE ?_ ?_ | refine wCsN ?_ ?_ | refine wCsND ?_ ?_ | refine wCsNE ?_ ?_ | refine wCsNB ?_ ?_ | refine wCs ?_ ?_) <;> intro hb))
        exact ⟨i + 1, by omega, by omega, (by (repeat (first | exact sub_nil _ | refine sub_cons (by rfl) ?_))), (by (repeat (first | exact sub_nil _ | refine sub_cons (by rfl) ?_)))⟩
    · obtain rfl : n = i := by omega
      have z1 : (setTo (hasB s) n n).length = n := set_len _ _ _
      have z2 : (setTo (hasB t) n n).length = n := set_len _ _ _
      have z3 : (setTo (fun j => hasB s j || hasB t j) n n).length = n := set_len _ _ _
      have hor : ∀ j, j < n → hasB (setTo (fun j => hasB s j || hasB t j) n n) j = (hasB (setTo (hasB s) n n) j || hasB (setTo (hasB t) n n) j) := fun j hj => by
        rw [set_has _ hj, set_has _ hj, set_has _ hj]
      generalize setTo (fun j => hasB s j || hasB t j) n n = S3 at z3 hor ⊢
      generalize setTo (hasB s) n n = S1 at z1 hor ⊢
      generalize setTo (hasB t) n n = S2 at z2 hor ⊢
      have hF1 : FitOk m fit nd := ⟨by omega, fun r hr => by rw [hrow r hr]; omega, hnd.1⟩
      have hF2 : FitOk m fit ed := ⟨by omega, fun r hr => by rw [hrow r hr]; omega, hed.1⟩
      have hC1 := close_v m n fit S1 nd hok hF1
      have hC2 := close_v m n fit S2 nd hok hF1
      have hC3 := close_v m n fit S3 nd hok hF1
      have hG1 := go_v m n fit S1 ed 7 nd hok hF2 hF1
      have hG2 := go_v m n fit S2 ed 7 nd hok hF2 hF1
      have hG3 := go_v m n fit S3 ed 7 nd hok hF2 hF1
      have hL := hok.inr
      have k1 : ∀ j, j < n → hasB S1 j = true → hasB (closeB m.moves (staysB m fit nd) (hasB S1) n) j = true := fun j hj h => close_in hj h
      have k2 : ∀ j, j < n → hasB (closeB m.moves (staysB m fit nd) (hasB S3) n) j = (hasB (closeB m.moves (staysB m fit nd) (hasB S1) n) j || hasB (closeB m.moves (staysB m fit nd) (hasB S2) n) j) := fun j hj => by
        rw [close_congr hL hor]; exact close_or hj
      have k3 : ∀ j, j < n → hasB (closeB m.moves (staysB m fit nd) (hasB (goF m.moves (goesB m fit ed 7) (hasB S3) n)) n) j = (hasB (closeB m.moves (staysB m fit nd) (hasB (goF m.moves (goesB m fit ed 7) (hasB S1) n)) n) j || hasB (closeB m.moves (staysB m fit nd) (hasB (goF m.moves (goesB m fit ed 7) (hasB S2) n)) n) j) := fun j hj => by
        rw [goFold_congr (goesB m fit ed 7) hL hor, close_congr hL (fun j hj => go_or (goesB m fit ed 7) (hasB S2) j)]; exact close_or hj
      have hCX := close_v m n fit (closeB m.moves (staysB m fit nd) (hasB S1) n) nd hok hF1
      rw [close_again hL] at hCX
      have hCW := close_v m n fit (closeB m.moves (staysB m fit nd) (hasB (goF m.moves (goesB m fit ed 7) (hasB S3) n)) n) nd hok hF1
      rw [close_again hL] at hCW
      have x1 : (closeB m.moves (staysB m fit nd) (hasB S1) n).length = n := close_len
      have x2 : (closeB m.moves (staysB m fit nd) (hasB S2) n).length = n := close_len
      have x3 : (closeB m.moves (staysB m fit nd) (hasB S3) n).length = n := close_len
      have x4 : (closeB m.moves (staysB m fit nd) (hasB (goF m.moves (goesB m fit ed 7) (hasB S1) n)) n).length = n := close_len
      have x5 : (closeB m.moves (staysB m fit nd) (hasB (goF m.moves (goesB m fit ed 7) (hasB S2) n)) n).length = n := close_len
      have x6 : (closeB m.moves (staysB m fit nd) (hasB (goF m.moves (goesB m fit ed 7) (hasB S3) n)) n).length = n := close_len
      generalize closeB m.moves (staysB m fit nd) (hasB (goF m.moves (goesB m fit ed 7) (hasB S1) n)) n = U at x4 k3 hG1
      generalize closeB m.moves (staysB m fit nd) (hasB (goF m.moves (goesB m fit ed 7) (hasB S2) n)) n = V at x5 k3 hG2
      generalize closeB m.moves (staysB m fit nd) (hasB (goF m.moves (goesB m fit ed 7) (hasB S3) n)) n = Wx at x6 k3 hG3 hCW
      generalize closeB m.moves (staysB m fit nd) (hasB S1) n = Xx at x1 k1 k2 hC1 hCX
      generalize closeB m.moves (staysB m fit nd) (hasB S2) n = Y at x2 k2 hC2
      generalize closeB m.moves (staysB m fit nd) (hasB S3) n = Z at x3 k2 hC3
      have s1 := sameB_v Xx (by omega)
      have s2 := sameB_v Wx (by omega)
      unfold encA at hC1 hC2 hC3 hG1 hG2 hG3 hCX hCW
      rw [hst] at hC1 hC2 hC3 hG1 hG2 hG3 hCX hCW
      have ln : ∀ l : List Bool, l.length = n → (l.map encB).length = n := fun l h => by rw [List.length_map]; exact h
      clear three hput hgetR hor hrow hrep hM hNo hS hN hE hr hvb hsb htb
      iterate 8 (first | refine W_seq ?_ | refine W_region ?_ | ((first | refine RL_nil ?_ | refine W_skip ?_ | refine W_exit ?_ | refine W_ret ?_ | refine mN ?_); (first | change W _ _ _ _ _ | change EndQ _ _ _ _ _ _ | change Exists _ | skip)) | (refine isRL ?_; first | refine uMv ?_ | refine uAs ?_ | refine uO ?_ | (refine isBin ?_; first | refine uIb ?_ | refine uCat ?_ | refine uBb true ?_ | refine uBb false ?_ | refine uP ?_) | (refine isLd ?_; first | refine uLp ?_ | refine uLb ?_ | refine uL1 ?_ | refine uL2 ?_ | refine uP ?_) | (refine isCl ?_; first | refine uP ?_ | refine uAk ?_ | refine uA ?_ | refine uA0 ?_ | refine uWl ?_) | (refine isFa ?_; first | refine uP ?_) | (refine isSt ?_; first | refine uSw ?_ | refine uS ?_ | refine uSc ?_ | refine uSo ?_) | refine uX ?_ | refine uBu true ?_ | refine uBu false ?_ | refine uBs ?_ | refine uP ?_ | refine uBx ?_ | refine uN ?_ | refine uON ?_ | ((first | refine uGsD ?_ ?_ | refine uGsE ?_ ?_ | refine uGsN ?_ ?_ | refine uGsND ?_ ?_ | refine uGsNE ?_ ?_ | refine uGsNB ?_ ?_ | refine uGs ?_ ?_) <;> intro hb)) | refine W_block ?_ | refine wT fun _ => ?_ | refine wF fun _ => ?_ | refine uAnyL ?_ | refine uAny ?_ | (refine isD ?_; first | refine mMv ?_ | refine mAs ?_ | refine mO ?_ | (refine imBin ?_; first | refine mIb ?_ | refine mCat ?_ | refine mBb true ?_ | refine mBb false ?_ | refine mP ?_) | (refine imLd ?_; first | refine mLp ?_ | refine mLb ?_ | refine mL1 ?_ | refine mL2 ?_ | refine mP ?_) | (refine imCl ?_; first | refine mP ?_ | refine mA ?_ | refine mA0 ?_) | (refine imFa ?_; first | refine mP ?_) | refine mX ?_ | refine mBu true ?_ | refine mBu false ?_ | refine mBs ?_ | refine mP ?_ | refine mAl ?_ | refine mSt ?_) | ((first | refine wCsD ?_ ?_ | refine wCsE ?_ ?_ | refine wCsN ?_ ?_ | refine wCsND ?_ ?_ | refine wCsNE ?_ ?_ | refine wCsNB ?_ ?_ | refine wCs ?_ ?_) <;> intro hb))
      refine uArrTok (n := n) (rows := S1.map encB) 20 89 ?_ (ln _ z1).symm (by rw [ln _ z1]; omega)
      refine uArrTok (n := n) (rows := S2.map encB) 21 92 ?_ (ln _ z2).symm (by rw [ln _ z2]; omega)
      refine uArrTok (n := n) (rows := S3.map encB) 22 95 ?_ (ln _ z3).symm (by rw [ln _ z3]; omega)
      repeat' (first | refine W_seq ?_ | refine W_region ?_ | ((first | refine RL_nil ?_ | refine W_skip ?_ | refine W_exit ?_ | refine W_ret ?_ | refine mN ?_); (first | change W _ _ _ _ _ | change EndQ _ _ _ _ _ _ | change Exists _ | skip)) | (refine isRL ?_; first | refine uMv ?_ | refine uAs ?_ | refine uO ?_ | (refine isBin ?_; first | refine uIb ?_ | refine uCat ?_ | refine uBb true ?_ | refine uBb false ?_ | refine uP ?_) | (refine isLd ?_; first | refine uLp ?_ | refine uLb ?_ | refine uL1 ?_ | refine uL2 ?_ | refine uP ?_) | (refine isCl ?_; first | refine uCO (hC1) ?_ | refine uCO (hC2) ?_ | refine uCO (hC3) ?_ | refine uCO (hG1) ?_ | refine uCO (hG2) ?_ | refine uCO (hG3) ?_ | refine uP ?_ | refine uAk ?_ | refine uA ?_ | refine uA0 ?_ | refine uWl ?_) | (refine isFa ?_; first | refine uP ?_) | (refine isSt ?_; first | refine uSw ?_ | refine uS ?_ | refine uSc ?_ | refine uSo ?_) | refine uX ?_ | refine uBu true ?_ | refine uBu false ?_ | refine uBs ?_ | refine uP ?_ | refine uBx ?_ | refine uN ?_ | refine uON ?_ | ((first | refine uGsD ?_ ?_ | refine uGsE ?_ ?_ | refine uGsN ?_ ?_ | refine uGsND ?_ ?_ | refine uGsNE ?_ ?_ | refine uGsNB ?_ ?_ | refine uGs ?_ ?_) <;> intro hb)) | refine W_block ?_ | refine wT fun _ => ?_ | refine wF fun _ => ?_ | refine uAnyL ?_ | refine uAny ?_ | (refine isD ?_; first | refine mMv ?_ | refine mAs ?_ | refine mO ?_ | (refine imBin ?_; first | refine mIb ?_ | refine mCat ?_ | refine mBb true ?_ | refine mBb false ?_ | refine mP ?_) | (refine imLd ?_; first | refine mLp ?_ | refine mLb ?_ | refine mL1 ?_ | refine mL2 ?_ | refine mP ?_) | (refine imCl ?_; first | refine mCO (hC1) ?_ | refine mCO (hC2) ?_ | refine mCO (hC3) ?_ | refine mCO (hG1) ?_ | refine mCO (hG2) ?_ | refine mCO (hG3) ?_ | refine mP ?_ | refine mA ?_ | refine mA0 ?_) | (refine imFa ?_; first | refine mP ?_) | refine mX ?_ | refine mBu true ?_ | refine mBu false ?_ | refine mBs ?_ | refine mP ?_ | refine mAl ?_ | refine mSt ?_) | ((first | refine wCsD ?_ ?_ | refine wCsE ?_ ?_ | refine wCsN ?_ ?_ | refine wCsND ?_ ?_ | refine wCsNE ?_ ?_ | refine wCsNB ?_ ?_ | refine wCs ?_ ?_) <;> intro hb))
      refine W_for (α := Nat) (fun i => [(4, vI nd), (13, vB true), (15, .one (.po 15 0)), (16, .one (.own 47 (fit.map encR))), (20, .one (.own 89 (S1.map encB))), (24, .one (.own 145 (Xx.map encB))), (25, .one (.own 150 (Y.map encB))), (26, .one (.own 155 (Z.map encB))), (27, .one (.own 161 (U.map encB))), (28, .one (.own 167 (V.map encB))), (29, .one (.own 173 (Wx.map encB))), (30, vI i)]) (fun _ => [(15, .box 66 [.sl (m.elems.map encP), .sl (m.moves.map encMv), .v (.int .i64 (n : Int))])]) (fun i => i ≤ n) (fun i => n - i) 0 (Nat.zero_le _) (by (repeat (first | exact sub_nil _ | refine sub_cons (by rfl) ?_))) (by (repeat (first | exact sub_nil _ | refine sub_cons (by rfl) ?_))) ?_
      intro i hi
      by_cases hit : i < n
      · have gt : ∀ l : List Bool, l.length = n → l[i]? = some (hasB l i) := fun l h => by
          have hlt : i < l.length := by omega
          rw [List.getElem?_eq_getElem hlt, hasB_get (List.getElem?_eq_getElem hlt)]
        have g1 := gt _ z1
        have g2 := gt _ x1
        have g3 := gt _ x2
        have g4 := gt _ x3
        have g5 := gt _ x4
        have g6 := gt _ x5
        have g7 := gt _ x6
        have m1 := k1 i hit
        have m2 := k2 i hit
        have m3 := k3 i hit
        rw [m2] at g4
        rw [m3] at g7
        clear m2 m3
        exact W_of_sub (grow_body m fit S1 Xx Y Z U V Wx nd n i hit hn6 _ _ _ _ _ g1 g2 g3 g4 g5 g6 g7 m1 (fun fr' σ' => ∃ s' : Nat, n - s' < n - i ∧ s' ≤ n ∧ Sub [(4, vI nd), (13, vB true), (15, .one (.po 15 0)), (16, .one (.own 47 (fit.map encR))), (20, .one (.own 89 (S1.map encB))), (24, .one (.own 145 (Xx.map encB))), (25, .one (.own 150 (Y.map encB))), (26, .one (.own 155 (Z.map encB))), (27, .one (.own 161 (U.map encB))), (28, .one (.own 167 (V.map encB))), (29, .one (.own 173 (Wx.map encB))), (30, vI s')] fr' ∧ Sub [(15, .box 66 [.sl (m.elems.map encP), .sl (m.moves.map encMv), .v (.int .i64 (n : Int))])] σ') (fun fr' σ' h1 h2 => ⟨i + 1, by omega, by omega, h1, h2⟩)) rfl
      · obtain rfl : i = n := by omega
        repeat' (first | refine W_seq ?_ | refine W_region ?_ | ((first | refine RL_nil ?_ | refine W_skip ?_ | refine W_exit ?_ | refine W_ret ?_ | refine mN ?_); (first | change W _ _ _ _ _ | change EndQ _ _ _ _ _ _ | change Exists _ | skip)) | (refine isRL ?_; first | refine uMv ?_ | refine uAs ?_ | refine uO ?_ | (refine isBin ?_; first | refine uIb ?_ | refine uCat ?_ | refine uBb true ?_ | refine uBb false ?_ | refine uP ?_) | (refine isLd ?_; first | refine uLp ?_ | refine uLb ?_ | refine uL1 ?_ | refine uL2 ?_ | refine uP ?_) | (refine isCl ?_; first | refine uCO (hCX) ?_ | refine uCO (hCW) ?_ | refine uC (s1) ?_ | refine uC (s2) ?_ | refine uP ?_ | refine uAk ?_ | refine uA ?_ | refine uA0 ?_ | refine uWl ?_) | (refine isFa ?_; first | refine uP ?_) | (refine isSt ?_; first | refine uSw ?_ | refine uS ?_ | refine uSc ?_ | refine uSo ?_) | refine uX ?_ | refine uBu true ?_ | refine uBu false ?_ | refine uBs ?_ | refine uP ?_ | refine uBx ?_ | refine uN ?_ | refine uON ?_ | ((first | refine uGsD ?_ ?_ | refine uGsE ?_ ?_ | refine uGsN ?_ ?_ | refine uGsND ?_ ?_ | refine uGsNE ?_ ?_ | refine uGsNB ?_ ?_ | refine uGs ?_ ?_) <;> intro hb)) | refine W_block ?_ | refine wT fun _ => ?_ | refine wF fun _ => ?_ | refine uAnyL ?_ | refine uAny ?_ | (refine isD ?_; first | refine mMv ?_ | refine mAs ?_ | refine mO ?_ | (refine imBin ?_; first | refine mIb ?_ | refine mCat ?_ | refine mBb true ?_ | refine mBb false ?_ | refine mP ?_) | (refine imLd ?_; first | refine mLp ?_ | refine mLb ?_ | refine mL1 ?_ | refine mL2 ?_ | refine mP ?_) | (refine imCl ?_; first | refine mCO (hCX) ?_ | refine mCO (hCW) ?_ | refine mC (s1) ?_ | refine mC (s2) ?_ | refine mP ?_ | refine mA ?_ | refine mA0 ?_) | (refine imFa ?_; first | refine mP ?_) | refine mX ?_ | refine mBu true ?_ | refine mBu false ?_ | refine mBs ?_ | refine mP ?_ | refine mAl ?_ | refine mSt ?_) | ((first | refine wCsD ?_ ?_ | refine wCsE ?_ ?_ | refine wCsN ?_ ?_ | refine wCsND ?_ ?_ | refine wCsNE ?_ ?_ | refine wCsNB ?_ ?_ | refine wCs ?_ ?_) <;> intro hb))
        exact end_r (by rfl) rfl
theorem autoGrows_v (g : Gr) (hg : bulkR (encG g) ≤ 1048576) (p : Pt) (hp : bulkR (encP p) ≤ 1048576) (s : List Bool) (hs : bulkR [.sl (s.map encB)] ≤ 1048576) (t : List Bool) (ht : bulkR [.sl (t.map encB)] ≤ 1048576) (node edge : Int) :
    CallsV Try.prog 10 [.dat (encG g), .dat (encP p), vL (s.map encB), vL (t.map encB), vI node, vI edge] (.val (vB true)) := by
  have hB : ∀ l : List Bool, bulkR [.sl (l.map encB)] ≤ 1048576 → l.length ≤ 1048576 := fun l h => by
    have h1 := bulk_len (l := l.map encB) fun q hq => by
      obtain ⟨b, _, rfl⟩ := List.mem_map.1 hq
      simp only [encB, bulkR, bulkD]; omega
    simp only [bulkR, bulkD] at h
    rw [List.length_map] at h1
    omega
  exact grows_w g p s t node edge (graph_few hg).1 (graph_few hg).2 (by have := (few_vars hp).1; omega) (hB s hs) (hB t ht)
end Go.Proofs.Ytjhkehloipmjfaa
