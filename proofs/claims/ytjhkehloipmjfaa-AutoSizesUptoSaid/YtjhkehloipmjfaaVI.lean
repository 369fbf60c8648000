/- Walks: a pattern's machine is built. -/
import Derived.Test.YtjhkehloipmjfaaQB
import Derived.Test.YtjhkehloipmjfaaWH
import Derived.Test.YtjhkehloipmjfaaVA
namespace Go.Proofs.Ytjhkehloipmjfaa
open Go.RowKit
def encA (m : Mach) : List D := [.sl (m.elems.map encP), .sl (m.moves.map encMv), .v (.int .i64 m.states)]
theorem fits_zero {p : Pt} (h : nodesP p ≤ 20000) : fits (nodesP p) ⟨[], [], 2⟩ := ⟨by simpa using h, by simp only [List.length_nil]; omega, by decide, by show (2 : Int) + _ ≤ _; omega⟩
set_option maxRecDepth 100000 in
set_option maxHeartbeats 4000000 in
theorem build_m (p : Pt) (hs : shapeP p = true) (hn : nodesP p ≤ 20000) : CallsM Try.prog 30 [.dat (encP p)] [] (.dat (encA (buildM p))) [] := by
  have hL := lay_m p 0 1 ⟨[], [], 2⟩ hs (fits_zero hn)
  unfold buildM
  generalize layM p 0 1 ⟨[], [], 2⟩ = M at hL ⊢
  simp only [autoS, List.map_nil] at hL
  (refine callsM_of_W (Ty := Ty) ty_ok Try.func30 rfl rfl rfl (by rfl) fun w0 S0 hp => ?_; simp only [argsF, List.zipIdx_cons, List.zipIdx_nil, List.map_cons, List.map_nil, Nat.zero_add])
  iterate 7 (first | refine W_seq ?_ | refine W_region ?_ | (refine RL_nil ?_; (first | change W _ _ _ _ _ | change EndQ _ _ _ _ _ _ | change Exists _ | change EndG _ _ _ _ _ _ _ _ _ _ | change EndM _ _ _ _ _ _ _ | skip)) | (refine isRL ?_; first | (refine isLd ?_; first | refine uLp ?_ | refine uLb ?_ | refine uL1 ?_ | refine uL2 ?_ | refine uP ?_) | (refine isCl ?_; first | refine uP ?_) | (refine isBd ?_; first | refine uBd ?_ | refine uP ?_) | (refine isSt ?_; first | refine uSw ?_ | refine uS ?_ | refine uSc ?_ | refine uSo ?_) | refine uP ?_ | refine uBx ?_ | refine uN ?_) | (refine W_skip ?_; (first | change W _ _ _ _ _ | change EndQ _ _ _ _ _ _ | change Exists _ | change EndG _ _ _ _ _ _ _ _ _ _ | change EndM _ _ _ _ _ _ _ | skip)) | (refine W_ret ?_; (first | change W _ _ _ _ _ | change EndQ _ _ _ _ _ _ | change Exists _ | change EndG _ _ _ _ _ _ _ _ _ _ | change EndM _ _ _ _ _ _ _ | skip)))
  refine uBdZ ?_
  refine uAlO ?_
  refine uSo ?_
  refine uNilO 3 1001 0 53 20 ?_
  refine uNilO 3 1002 1 73 3 ?_
  refine uRn 3 1000 (pin_none (hp 1000 rfl)) ?_
  repeat' (first | refine W_seq ?_ | refine W_region ?_ | (refine RL_nil ?_; (first | change W _ _ _ _ _ | change EndQ _ _ _ _ _ _ | change Exists _ | change EndG _ _ _ _ _ _ _ _ _ _ | change EndM _ _ _ _ _ _ _ | skip)) | (refine isRL ?_; first | (refine isLd ?_; first | refine uLp ?_ | refine uLb ?_ | refine uL1 ?_ | refine uL2 ?_ | refine uP ?_) | (refine isCl ?_; first | refine uM (hL) ?_ | refine uP ?_) | (refine isBd ?_; first | refine uBd ?_ | refine uP ?_) | (refine isSt ?_; first | refine uSw ?_ | refine uS ?_ | refine uSc ?_ | refine uSo ?_) | refine uP ?_ | refine uBx ?_ | refine uN ?_) | (refine W_skip ?_; (first | change W _ _ _ _ _ | change EndQ _ _ _ _ _ _ | change Exists _ | change EndG _ _ _ _ _ _ _ _ _ _ | change EndM _ _ _ _ _ _ _ | skip)) | (refine W_ret ?_; (first | change W _ _ _ _ _ | change EndQ _ _ _ _ _ _ | change Exists _ | change EndG _ _ _ _ _ _ _ _ _ _ | change EndM _ _ _ _ _ _ _ | skip)))
  exact end_m (by rfl) rfl (by (repeat (first | exact gHas_nil _ | refine gHas_cons (by rfl) ?_)))
end Go.Proofs.Ytjhkehloipmjfaa
/- Walks: a pattern is laid into a machine, by the document. -/
namespace Go.Proofs.Ytjhkehloipmjfaa
open Go.RowKit
end Go.Proofs.Ytjhkehloipmjfaa
/- Walks: slices.Repeat of one pattern. -/
namespace Go.Proofs.Ytjhkehloipmjfaa
open Go.RowKit
end Go.Proofs.Ytjhkehloipmjfaa
/- Walks: patterns made normal, by the program. -/
namespace Go.Proofs.Ytjhkehloipmjfaa
open Go.RowKit
theorem opens_len (k : Int) (l : List Pt) : (l.flatMap (openP k)).length ≤ (l.map nodesP).sum :=
  Nat.le_trans (length_le_sum nodesP _ fun x _ => nodesP_pos x) (nodes_opens k l)
theorem map_next {α β : Type} {f : α → β} {l : List α} {q : α} {i : Nat} (hq : l[i]? = some q) : (l.take (i + 1)).map f = (l.take i).map f ++ [f q] := by
  rw [List.take_add_one, hq, Option.toList_some, List.map_append, List.map_singleton]
theorem sum_normal {p : Pt} (h : rightP p = true) (hk : p.kind = 3 ∨ p.kind = 4) : ((p.kids.map normal).map nodesP).sum ≤ 2 * sizeN p := by
  rw [List.map_map]
  refine Nat.le_trans (sum_le _ (fun k => 2 * sizeN k) p.kids fun k hk => by have := nodes_normal k (right_kids h k hk); simp only [Function.comp]; omega) ?_
  rw [sizeN_group (by omega)]
  have h7 : ∀ l : List Pt, (l.map fun k => 2 * sizeN k).sum = 2 * (l.map sizeN).sum := fun l => by
    induction l with
    | nil => rfl
    | cons x l ih => simp only [List.map_cons, List.sum_cons, ih]; omega
  rw [h7]; omega
theorem sum_quant {p b : Pt} (h1 : 0 ≤ p.min) (h2 : p.min ≤ 20) (h3 : p.max = -1 ∨ (1 ≤ p.max ∧ p.min ≤ p.max ∧ p.max ≤ 20)) : ((List.replicate p.min.toNat b ++ moreP p b).map nodesP).sum ≤ 21 * (nodesP b + 2) := by
  rw [List.map_append, List.sum_append, List.map_replicate, sum_replicate]
  refine Nat.le_trans (nodes_more (p := p) b h1 h3) (Nat.mul_le_mul_right _ ?_)
  unfold timesP; split <;> omega
end Go.Proofs.Ytjhkehloipmjfaa
