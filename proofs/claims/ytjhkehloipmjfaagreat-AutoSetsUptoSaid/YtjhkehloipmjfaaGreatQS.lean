/- Walks: whether a graph and a pattern are small enough to be looked at. -/
import Derived.Test.YtjhkehloipmjfaaGreatGR
import Derived.Test.YtjhkehloipmjfaaGreatQG
import Derived.Test.YtjhkehloipmjfaaGreatQL
import Derived.Test.YtjhkehloipmjfaaGreatQ3
import Derived.Test.YtjhkehloipmjfaaGreatQH
import Derived.Test.YtjhkehloipmjfaaGreatQR
import Derived.Test.YtjhkehloipmjfaaGreatRT
namespace Go.Proofs.YtjhkehloipmjfaaGreat
open Go.RowKit
structure SmallP (g : Gr) (p : Pt) : Prop where
  n8 : g.nodes.length ≤ 8
  n0 : 0 < g.nodes.length
  e10 : g.edges.length ≤ 10
  cnt : countP p ≤ 100
  right : graphRight g = 0
  check : checkQ ⟨1, 0, 0, p⟩ = 0
  size : sizeN p ≤ 40
section
variable {g : Gr} {p : Pt} (hN : ∀ n ∈ g.nodes, n.props.length ≤ 1048576) (hE : ∀ n ∈ g.edges, n.props.length ≤ 1048576) (hvb : (varsP p).length ≤ 1000000)
include hN hE hvb
set_option maxRecDepth 100000 in
set_option maxHeartbeats 4000000 in
theorem small_yes (h : SmallP g p) : CallsV Tryz.prog 8 [.dat (encG g), .dat (encP p)] (.val (vB true)) := by
  have hln : (g.nodes.map encNd).length = g.nodes.length := List.length_map _
  have hle : (g.edges.map encEd).length = g.edges.length := List.length_map _
  obtain ⟨h1, h2, h3, h4, h5, h6, h7⟩ := h
  have hG := graphRight_v g hN hE
  have hC := check_v ⟨1, 0, 0, p⟩ hvb
  have hS := size_v p (check_ok h6).1
  have hK := countP_v p
  rw [h5] at hG
  rw [h6] at hC
  unfold encG at hG ⊢
  (refine callsV_of_W (Ty := Ty) ty_ok Tryz.func8 rfl rfl rfl fun w0 S0 => ?_; simp only [argsF, List.zipIdx_cons, List.zipIdx_nil, List.map_cons, List.map_nil, Nat.zero_add])
  repeat' (first | refine W_seq ?_ | refine W_region ?_ | ((first | refine RL_nil ?_ | refine W_skip ?_ | refine W_ret ?_); (first | change W _ _ _ _ _ | change EndQ _ _ _ _ _ _ )) | (refine isRL ?_; first | refine uBdQ ⟨1, 0, 0, p⟩ ?_ | refine uMv ?_ | refine uAs ?_ | (refine isBin ?_; first | refine uBb true ?_ | refine uBb false ?_ ) | (refine isLd ?_; first | refine uLb ?_ | refine uL1 ?_ ) | (refine isCl ?_; first | refine uC (hG) ?_ | refine uC (hC) ?_ | refine uC (hS) ?_ | refine uC (hK) ?_ | refine uP ?_) | (refine isFa ?_; first | refine uP ?_) | refine uP ?_ | refine uBx ?_ ) | refine wF fun _ => ?_ )
  exact end_r (by rfl) rfl
set_option maxRecDepth 100000 in
set_option maxHeartbeats 4000000 in
theorem small_no (h : ¬ SmallP g p) : CallsV Tryz.prog 8 [.dat (encG g), .dat (encP p)] (.val (vB false)) := by
  have hln : (g.nodes.map encNd).length = g.nodes.length := List.length_map _
  have hle : (g.edges.map encEd).length = g.edges.length := List.length_map _
  have hG := graphRight_v g hN hE
  have hC := check_v ⟨1, 0, 0, p⟩ hvb
  have hK := countP_v p
  generalize hgr : graphRight g = r at hG
  unfold encG at hG ⊢
  (refine callsV_of_W (Ty := Ty) ty_ok Tryz.func8 rfl rfl rfl fun w0 S0 => ?_; simp only [argsF, List.zipIdx_cons, List.zipIdx_nil, List.map_cons, List.map_nil, Nat.zero_add])
  by_cases h1 : 8 < g.nodes.length
  · repeat' (first | refine W_seq ?_ | refine W_region ?_ | ((first | refine RL_nil ?_ | refine W_ret ?_); (first | change W _ _ _ _ _ | skip)) | (refine isRL ?_; first | refine uMv ?_ | refine uAs ?_ | refine uO ?_ | (refine isBin ?_; first | refine uBb true ?_ ) | (refine isLd ?_; first | refine uL1 ?_ ) | (refine isCl ?_; first | refine uP ?_) | (refine isFa ?_; first | refine uP ?_) | refine uP ?_ | refine uBx ?_ ) | refine wT fun _ => ?_ )
    exact end_r (by rfl) rfl
  by_cases h2 : g.nodes.length = 0
  · repeat' (first | refine W_seq ?_ | refine W_region ?_ | ((first | refine RL_nil ?_ | refine W_ret ?_); (first | change W _ _ _ _ _ | skip)) | (refine isRL ?_; first | refine uMv ?_ | refine uAs ?_ | refine uO ?_ | (refine isBin ?_; first | refine uBb true ?_ | refine uBb false ?_ ) | (refine isLd ?_; first | refine uL1 ?_ ) | (refine isCl ?_; first | refine uP ?_) | (refine isFa ?_; first | refine uP ?_) | refine uP ?_ | refine uBx ?_ ) | refine wT fun _ => ?_ )
    exact end_r (by rfl) rfl
  by_cases h3 : 10 < g.edges.length
  · repeat' (first | refine W_seq ?_ | refine W_region ?_ | ((first | refine RL_nil ?_ | refine W_ret ?_); (first | change W _ _ _ _ _ | skip)) | (refine isRL ?_; first | refine uMv ?_ | refine uAs ?_ | refine uO ?_ | (refine isBin ?_; first | refine uBb true ?_ | refine uBb false ?_ ) | (refine isLd ?_; first | refine uL1 ?_ ) | (refine isCl ?_; first | refine uP ?_) | (refine isFa ?_; first | refine uP ?_) | refine uP ?_ | refine uBx ?_ ) | refine wT fun _ => ?_ )
    exact end_r (by rfl) rfl
  by_cases h4 : 100 < countP p
  · repeat' (first | refine W_seq ?_ | refine W_region ?_ | ((first | refine RL_nil ?_ | refine W_ret ?_); (first | change W _ _ _ _ _ | skip)) | (refine isRL ?_; first | refine uMv ?_ | refine uAs ?_ | (refine isBin ?_; first | refine uBb true ?_ | refine uBb false ?_ ) | (refine isLd ?_; first | refine uLb ?_ | refine uL1 ?_ ) | (refine isCl ?_; first | refine uC (hK) ?_ | refine uP ?_) | (refine isFa ?_; first | refine uP ?_) | refine uP ?_ | refine uBx ?_ ) | refine wT fun _ => ?_ )
    exact end_r (by rfl) rfl
  by_cases h5 : r = 0
  · by_cases h6 : checkQ ⟨1, 0, 0, p⟩ = 0
    · rw [h6] at hC
      have hS := size_v p (check_ok h6).1
      have h7 : 40 < sizeN p := by
        refine Nat.lt_of_not_le fun h7 => h ⟨by omega, by omega, by omega, by omega, by rw [hgr]; exact h5, h6, h7⟩
      subst h5
      repeat' (first | refine W_seq ?_ | refine W_region ?_ | ((first | refine RL_nil ?_ | refine W_skip ?_ | refine W_ret ?_); (first | change W _ _ _ _ _ | change EndQ _ _ _ _ _ _ )) | (refine isRL ?_; first | refine uBdQ ⟨1, 0, 0, p⟩ ?_ | refine uMv ?_ | refine uAs ?_ | (refine isBin ?_; first | refine uBb true ?_ | refine uBb false ?_ ) | (refine isLd ?_; first | refine uLb ?_ | refine uL1 ?_ ) | (refine isCl ?_; first | refine uC (hG) ?_ | refine uC (hC) ?_ | refine uC (hS) ?_ | refine uC (hK) ?_ | refine uP ?_) | (refine isFa ?_; first | refine uP ?_) | refine uP ?_ | refine uBx ?_ ) | refine wF fun _ => ?_ )
      exact end_r (by rfl) rfl
    · generalize checkQ ⟨1, 0, 0, p⟩ = c at hC h6
      subst h5
      repeat' (first | refine W_seq ?_ | refine W_region ?_ | ((first | refine RL_nil ?_ | refine W_skip ?_ | refine W_ret ?_); (first | change W _ _ _ _ _ | change EndQ _ _ _ _ _ _ )) | (refine isRL ?_; first | refine uBdQ ⟨1, 0, 0, p⟩ ?_ | refine uMv ?_ | refine uAs ?_ | refine uO ?_ | (refine isBin ?_; first | refine uBb true ?_ | refine uBb false ?_ ) | (refine isLd ?_; first | refine uLb ?_ | refine uL1 ?_ ) | (refine isCl ?_; first | refine uC (hG) ?_ | refine uC (hC) ?_ | refine uC (hK) ?_ | refine uP ?_) | (refine isFa ?_; first | refine uP ?_) | refine uP ?_ | refine uBx ?_ ) | refine wF fun _ => ?_ )
      exact end_r (by rfl) rfl
  · repeat' (first | refine W_seq ?_ | refine W_region ?_ | ((first | refine RL_nil ?_ | refine W_skip ?_ | refine W_ret ?_); (first | change W _ _ _ _ _ | change EndQ _ _ _ _ _ _ )) | (refine isRL ?_; first | refine uMv ?_ | refine uAs ?_ | refine uO ?_ | (refine isBin ?_; first | refine uBb false ?_ ) | (refine isLd ?_; first | refine uLb ?_ | refine uL1 ?_ ) | (refine isCl ?_; first | refine uC (hG) ?_ | refine uC (hK) ?_ | refine uP ?_) | (refine isFa ?_; first | refine uP ?_) | refine uP ?_ | refine uBx ?_ ) | refine wF fun _ => ?_ )
    exact end_r (by rfl) rfl
end
end Go.Proofs.YtjhkehloipmjfaaGreat
/- The walk of AutoGrows' last loop, once round. -/
namespace Go.Proofs.YtjhkehloipmjfaaGreat
open Go.RowKit
end Go.Proofs.YtjhkehloipmjfaaGreat
/- The walk of AutoGrows: it returns true, if its names fit into a slice. -/
namespace Go.Proofs.YtjhkehloipmjfaaGreat
open Go.RowKit
theorem and_leA (n : Int) (c : Nat) (hc : c ≤ 1000) : 0 ≤ (IntKind.i64.wrap ((BitVec.ofInt IntKind.i64.bits n &&& BitVec.ofInt IntKind.i64.bits c).toNat : Nat)) ∧ (IntKind.i64.wrap ((BitVec.ofInt IntKind.i64.bits n &&& BitVec.ofInt IntKind.i64.bits c).toNat : Nat)) ≤ c := by
  have hb : (BitVec.ofInt IntKind.i64.bits n &&& BitVec.ofInt IntKind.i64.bits c).toNat ≤ c := by
    rw [BitVec.toNat_and]
    have : (BitVec.ofInt IntKind.i64.bits c).toNat = c := by
      rw [BitVec.ofInt_natCast, BitVec.toNat_ofNat]
      exact Nat.mod_eq_of_lt (Nat.lt_of_le_of_lt hc (by decide))
    rw [this]
    exact Nat.and_le_right
  generalize (BitVec.ofInt IntKind.i64.bits n &&& BitVec.ofInt IntKind.i64.bits c).toNat = z at hb
  rw [IntWalk.i64_in (z : Int) (by omega)]
  exact ⟨by omega, by omega⟩
section
variable {w0 : W0} {S0 : Nat → Nat → Prop} {nt : Nat} {fr : Fr} {σ : Obs} {o : Oper} {ops : Array Oper} {rest : List Oper} {d : Nat} {t t2 : TypeId} {Q : Fr → Obs → Prop}
theorem uRem {xx yy : Operand} {a b : Int} (h : RL (cx nt w0 S0) ops rest ((d, vI (a.tmod b)) :: fr) σ Q) (ho : o.op = .binOp .rem t xx yy t2 := by rfl) (hdst : o.dst = some d := by rfl) (hd : Nat.blt d nt = true := by rfl) (hw : wantA ops o fr = some true := by rfl) (hx : ev fr xx = some (vI a) := by rfl) (hy : ev fr yy = some (vI b) := by rfl) (hb : b ≠ 0 := by omega) : RL (cx nt w0 S0) ops (o :: rest) fr σ Q :=
  RL_p (X := cx nt w0 S0) (x := vI (a.tmod b)) ty_ok hw hdst hd (by
    unfold aop
    rw [ho]
    simp only [hx, hy, vI, abin, hb, ne_eq, not_false_eq_true, and_self, if_true, Option.map_some]) h
end
theorem tmod_in {a b : Int} (ha : 0 ≤ a) (hb : 0 < b) : 0 ≤ a.tmod b ∧ a.tmod b < b := by
  rw [Int.tmod_eq_emod_of_nonneg ha]
  exact ⟨Int.emod_nonneg _ (by omega), Int.emod_lt_of_pos _ hb⟩
theorem machOk {p : Pt} (hs : shapeP p = true) (hn : nodesP p ≤ 20000) : MachOk (buildM p) (buildM p).states.toNat := by
  have hI := inv_build hs
  obtain ⟨⟨a1, a2, a3, a4⟩, a5⟩ := lay_gr p 0 1 ⟨[], [], 2⟩ hs
  have e : layM p 0 1 ⟨[], [], 2⟩ = buildM p := rfl
  rw [e] at a1 a2 a3 a4 a5
  simp only [List.length_nil] at a1 a2 a3 a4 a5
  have h2 := hI.st
  refine ⟨by omega, by omega, by omega, fun v hv => ?_, fun v hv => ?_⟩
  · have := hI.mv v hv
    omega
  · have := hI.mv v hv
    unfold elemOk
    omega
end Go.Proofs.YtjhkehloipmjfaaGreat
/- The walk of AutoSets: it returns true, if its names fit into a slice. -/
namespace Go.Proofs.YtjhkehloipmjfaaGreat
open Go.RowKit
section
variable {w0 : W0} {S0 : Nat → Nat → Prop} {nt : Nat} {fr : Fr} {σ : Obs} {o : Oper} {ops : Array Oper} {rest : List Oper} {d : Nat} {Q : Fr → Obs → Prop} {xs : Array Operand} {ats : Array TypeId} {z z' : Int}
/-- the lesser one, by another name -/
theorem uMinZ (hz : z = z') (h : RL (cx nt w0 S0) ops rest ((d, vI z') :: fr) σ Q) (_ho : o.op = .call { callee := .builtin .min, args := xs, argTypes := ats } := by rfl) (hdst : o.dst = some d := by rfl) (hd : Nat.blt d nt = true := by rfl) (hw : wantA ops o fr = some true := by rfl) (hv : aop (cx nt w0 S0) o fr σ = some ⟨.one (.d (.v (.int .i64 z))), fr, σ⟩ := by rfl) : RL (cx nt w0 S0) ops (o :: rest) fr σ Q :=
  RL_p (X := cx nt w0 S0) ty_ok hw hdst hd hv (hz ▸ h)
end
theorem build_elems {p : Pt} (h : shapeP p = true) : (buildM p).elems = elems p := by
  have := (lay_cn p 0 1 ⟨[], [], 2⟩ h).el
  exact this
set_option maxRecDepth 100000 in
set_option maxHeartbeats 16000000 in
theorem sets_w (g : Gr) (p : Pt) (s : List Bool) (node edge along : Int) (hN : ∀ n ∈ g.nodes, n.props.length ≤ 1048576) (hE : ∀ n ∈ g.edges, n.props.length ≤ 1048576) (hvb : (varsP p).length ≤ 1000000) :
    CallsV Tryz.prog 3 [.dat (encG g), .dat (encP p), vL (s.map encB), vI node, vI edge, vI along] (.val (vB true)) := by
  have hS := shown16_v
  have hln : (g.nodes.map encNd).length = g.nodes.length := List.length_map _
  have hle : (g.edges.map encEd).length = g.edges.length := List.length_map _
  have hsl : (s.map encB).length = s.length := List.length_map _
  by_cases hsm : SmallP g p
  rotate_left
  · have hM := small_no hN hE hvb hsm
    unfold encG at hM ⊢
    (refine callsV_of_W (Ty := Ty) ty_ok Tryz.func3 rfl rfl rfl fun w0 S0 => ?_; simp only [argsF, List.zipIdx_cons, List.zipIdx_nil, List.map_cons, List.map_nil, Nat.zero_add])
    repeat' (first | refine W_seq ?_ | refine W_region ?_ | ((first | refine RL_nil ?_ | refine W_ret ?_ ); (first | change W _ _ _ _ _ | skip)) | (refine isRL ?_; first | refine uMv ?_ | refine uAs ?_ | (refine isLd ?_; first | refine uLb ?_ ) | (refine isCl ?_; first | refine uC (hS) ?_ | refine uC (hM) ?_ ) | refine uBu true ?_ | refine uBx ?_ ) | refine wT fun _ => ?_ )
    exact end_r (by rfl) rfl
  have hM := small_yes hN hE hvb hsm
  obtain ⟨hr, hs⟩ := check_ok hsm.check
  dsimp only at hr hs
  have hNo := refNormal_v p hr (by omega)
  have hsh := shape_normal p hr
  have hnn := nodes_normal p hr
  have hB := (build_m (normal p) hsh (by omega)).toV
  have hR := (rbuild_m (normal p) hsh (by omega)).toV
  have hok := machOk hsh (by omega)
  have hels := build_elems hsh
  have hem : (buildM (normal p)).elems.length ≤ 20000 := by
    obtain ⟨⟨a1, _, _, _⟩, _⟩ := lay_gr (normal p) 0 1 ⟨[], [], 2⟩ hsh
    have e : layM (normal p) 0 1 ⟨[], [], 2⟩ = buildM (normal p) := rfl
    rw [e] at a1
    simp only [List.length_nil] at a1
    omega
  have hT := table15_x g (normal p) (by have := hsm.n8; omega) (by have := hsm.e10; omega) (by rw [← hels]; omega)
  rw [← hels] at hT
  generalize hG : buildM (normal p) = m at hB hR hok hem hT
  generalize hn : m.states.toNat = n at hok
  obtain ⟨n8, n0, e10, _, _, _, _⟩ := hsm
  obtain ⟨cut, hcut⟩ : ∃ cut : Nat, cut = min s.length 60 := ⟨_, rfl⟩
  have hif : (if (60 : Int) < ((s.map encB).length : Int) then (60 : Int) else ((s.map encB).length : Int)) = (cut : Int) := by
    split <;> omega
  have hz0 := sized_Bx s
  have hzs := sized_Bx (s.take ((cut : Int)).toNat)
  have hcl : cut ≤ s.length := by omega
  have hc6 : cut ≤ 60 := by omega
  have hst := hok.st
  unfold encG at hM hT ⊢
  (refine callsV_of_W (Ty := Ty) ty_ok Tryz.func3 rfl rfl rfl fun w0 S0 => ?_; simp only [argsF, List.zipIdx_cons, List.zipIdx_nil, List.map_cons, List.map_nil, Nat.zero_add])
  repeat' (first | refine W_seq ?_ | refine W_region ?_ | ((first | refine RL_nil ?_ | refine W_skip ?_ | refine W_ret ?_ ); (first | change W _ _ _ _ _ | skip)) | (refine isRL ?_; first | refine uMinZ hif ?_ | refine uNx hT (fun i hi => ?_) | refine uRem ?_ | refine uMv ?_ | refine uAs ?_ | (refine isBin ?_; first | refine uP ?_ ) | (refine isLd ?_; first | refine uLb ?_ | refine uL1 ?_ ) | (refine isCl ?_; first | refine uC (hS) ?_ | refine uC (hM) ?_ | refine uC (hNo) ?_ | refine uC (hB) ?_ | refine uC (hR) ?_ | refine uP ?_ | refine uAk ?_ ) | (refine isFa ?_; first | refine uP ?_) | (refine isSl ?_; first | refine uHm ?_ ) | (refine isSt ?_; first | refine uSw ?_ ) | refine uBu false ?_ | refine uBs ?_ | refine uP ?_ | refine uBx ?_ | refine uN ?_ ) | refine wF fun _ => ?_ | refine uAny ?_ | (refine isD ?_; first | refine mMv ?_ | (refine imLd ?_; first | refine mLb ?_ ) ) | ((first | refine wCsN ?_ ?_ ) <;> intro hb))
  · exact end_r (by rfl) rfl
  have hTok := hi (by first | exact hb )
  have hc1 : 0 ≤ (IntKind.i64.wrap ((BitVec.ofInt IntKind.i64.bits node &&& BitVec.ofInt IntKind.i64.bits 255).toNat : Nat)) ∧ (IntKind.i64.wrap ((BitVec.ofInt IntKind.i64.bits node &&& BitVec.ofInt IntKind.i64.bits 255).toNat : Nat)) ≤ 255 := and_leA node 255 (by decide)
  have hd1 : 0 ≤ (IntKind.i64.wrap ((BitVec.ofInt IntKind.i64.bits edge &&& BitVec.ofInt IntKind.i64.bits 255).toNat : Nat)) ∧ (IntKind.i64.wrap ((BitVec.ofInt IntKind.i64.bits edge &&& BitVec.ofInt IntKind.i64.bits 255).toNat : Nat)) ≤ 255 := and_leA edge 255 (by decide)
  have hnd := tmod_in (a := (IntKind.i64.wrap ((BitVec.ofInt IntKind.i64.bits node &&& BitVec.ofInt IntKind.i64.bits 255).toNat : Nat))) (b := ((g.nodes.map encNd).length : Int)) hc1.1 (by omega)
  generalize ((IntKind.i64.wrap ((BitVec.ofInt IntKind.i64.bits node &&& BitVec.ofInt IntKind.i64.bits 255).toNat : Nat))).tmod ((g.nodes.map encNd).length : Int) = nd at hnd ⊢
  have hrow1 : FitOk 1 m i.1 nd := ⟨by rw [hTok.len]; omega, fun j p' r hp hk hr => by
    have := hTok.row j p' r hp hr
    unfold rowN at this
    rw [if_neg (by omega)] at this
    omega, hnd.1⟩
  have hC1 := close_v m n i.1 (s.take ((cut : Int)).toNat) nd hok hrow1
  have hC2 := rclose_v m n i.1 (s.take ((cut : Int)).toNat) nd hok hrow1
  have x1 : (closeB m.moves (staysB m i.1 nd) (hasB (s.take ((cut : Int)).toNat)) n).length = n := close_len
  have s1 := sameB_v (closeB m.moves (staysB m i.1 nd) (hasB (s.take ((cut : Int)).toNat)) n) (by have := hok.small; omega)
  generalize closeB m.moves (staysB m i.1 nd) (hasB (s.take ((cut : Int)).toNat)) n = Xx at hC1 hC2 x1 s1
  by_cases he0 : g.edges.length = 0
  · repeat' (first | refine W_seq ?_ | refine W_region ?_ | ((first | refine RL_nil ?_ | refine W_skip ?_ | refine W_ret ?_ | refine mN ?_); (first | change W _ _ _ _ _ | skip)) | (refine isRL ?_; first | refine uMv ?_ | refine uAs ?_ | (refine isBin ?_; first | refine uBb true ?_ ) | (refine isLd ?_; first | refine uL1 ?_ ) | (refine isCl ?_; first | refine uP ?_ ) | (refine isFa ?_; first | refine uP ?_) ) | refine wT fun _ => ?_ | refine wF fun _ => ?_ | (refine isD ?_; first | refine mMv ?_ | (refine imLd ?_; first | refine mLb ?_ ) | (refine imCl ?_; first | refine mCO (hC1) ?_ | refine mCO (hC2) ?_ | refine mC (s1) ?_ ) | refine mBu false ?_ ) )
    exact end_r (by rfl) rfl
  have hed := tmod_in (a := (IntKind.i64.wrap ((BitVec.ofInt IntKind.i64.bits edge &&& BitVec.ofInt IntKind.i64.bits 255).toNat : Nat))) (b := ((g.edges.map encEd).length : Int)) hd1.1 (by omega)
  have hrow2 : FitOk 2 m i.1 (((IntKind.i64.wrap ((BitVec.ofInt IntKind.i64.bits edge &&& BitVec.ofInt IntKind.i64.bits 255).toNat : Nat))).tmod ((g.edges.map encEd).length : Int)) := ⟨by rw [hTok.len]; omega, fun j p' r hp hk hr => by
    have := hTok.row j p' r hp hr
    unfold rowN at this
    rw [if_pos hk] at this
    omega, hed.1⟩
  have hG1 := go_v m n i.1 (s.take ((cut : Int)).toNat) (((IntKind.i64.wrap ((BitVec.ofInt IntKind.i64.bits edge &&& BitVec.ofInt IntKind.i64.bits 255).toNat : Nat))).tmod ((g.edges.map encEd).length : Int)) ((IntKind.i64.wrap ((BitVec.ofInt IntKind.i64.bits along &&& BitVec.ofInt IntKind.i64.bits 7).toNat : Nat))) nd hok hrow2 hrow1
  have hG2 := rgo_v m n i.1 (s.take ((cut : Int)).toNat) (((IntKind.i64.wrap ((BitVec.ofInt IntKind.i64.bits edge &&& BitVec.ofInt IntKind.i64.bits 255).toNat : Nat))).tmod ((g.edges.map encEd).length : Int)) ((IntKind.i64.wrap ((BitVec.ofInt IntKind.i64.bits along &&& BitVec.ofInt IntKind.i64.bits 7).toNat : Nat))) nd hok hrow2 hrow1
  have x2 : (closeB m.moves (staysB m i.1 nd) (hasB (goF m.moves (goesB m i.1 (((IntKind.i64.wrap ((BitVec.ofInt IntKind.i64.bits edge &&& BitVec.ofInt IntKind.i64.bits 255).toNat : Nat))).tmod ((g.edges.map encEd).length : Int)) ((IntKind.i64.wrap ((BitVec.ofInt IntKind.i64.bits along &&& BitVec.ofInt IntKind.i64.bits 7).toNat : Nat)))) (hasB (s.take ((cut : Int)).toNat)) n)) n).length = n := close_len
  generalize closeB m.moves (staysB m i.1 nd) (hasB (goF m.moves (goesB m i.1 (((IntKind.i64.wrap ((BitVec.ofInt IntKind.i64.bits edge &&& BitVec.ofInt IntKind.i64.bits 255).toNat : Nat))).tmod ((g.edges.map encEd).length : Int)) ((IntKind.i64.wrap ((BitVec.ofInt IntKind.i64.bits along &&& BitVec.ofInt IntKind.i64.bits 7).toNat : Nat)))) (hasB (s.take ((cut : Int)).toNat)) n)) n = Y at hG1 hG2 x2
  have s2 := sameB_v Y (by have := hok.small; omega)
  repeat' (first | refine W_seq ?_ | refine W_region ?_ | ((first | refine RL_nil ?_ | refine W_skip ?_ | refine W_ret ?_ | refine mN ?_); (first | change W _ _ _ _ _ | change EndQ _ _ _ _ _ _ )) | (refine isRL ?_; first | refine uRem ?_ | refine uMv ?_ | refine uAs ?_ | (refine isBin ?_; first | refine uBb false ?_ | refine uP ?_ ) | (refine isLd ?_; first | refine uL1 ?_ ) | (refine isCl ?_; first | refine uP ?_ ) | (refine isFa ?_; first | refine uP ?_) ) | refine wF fun _ => ?_ | refine uAny ?_ | (refine isD ?_; first | refine mMv ?_ | refine mAs ?_ | (refine imBin ?_; first | refine mP ?_ ) | (refine imLd ?_; first | refine mLb ?_ ) | (refine imCl ?_; first | refine mCO (hC1) ?_ | refine mCO (hC2) ?_ | refine mC (s1) ?_ | refine mCO (hG1) ?_ | refine mCO (hG2) ?_ | refine mC (s2) ?_ ) | refine mBu false ?_ | refine mP ?_ ) )
  exact end_r (by rfl) rfl
theorem autoSets_v (g : Gr) (hg : bulkR (encG g) ≤ 1048576) (p : Pt) (hp : bulkR (encP p) ≤ 1048576) (s : List Bool) (_hs : bulkR [.sl (s.map encB)] ≤ 1048576) (node edge along : Int) :
    CallsV Tryz.prog 3 [.dat (encG g), .dat (encP p), vL (s.map encB), vI node, vI edge, vI along] (.val (vB true)) :=
  sets_w g p s node edge along (graph_few hg).1 (graph_few hg).2 (by have := (few_vars hp).1; omega)
end Go.Proofs.YtjhkehloipmjfaaGreat
