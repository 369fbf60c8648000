/- Walks: the names of variables in a pattern, collected in a slice that a closure shares. -/
import Derived.Test.YtjhkehloipmjfaaWH
import Derived.Test.YtjhkehloipmjfaaVC
import Derived.Test.YtjhkehloipmjfaaWI
namespace Go.Proofs.Ytjhkehloipmjfaa
open Go.RowKit
def ownV (p : Pt) : List ByteArray := if emptyS p.var = true then [] else [p.var]
def varsP : Pt → List ByteArray := foldP fun p ks => ownV p ++ ks.flatten
theorem varsP_eq (p : Pt) : varsP p = ownV p ++ p.kids.flatMap varsP := by unfold varsP; rw [foldP_eq]; rfl
abbrev lV (l : List ByteArray) : C := .own 1001 (l.map encS)
abbrev cV (l : List ByteArray) : Cells := [(1000, 41, lV l)]
abbrev cD (l : List ByteArray) : Cells := [(1000, 41, lV l), (1002, 69, .fn 79 [1000])]
set_option maxRecDepth 100000 in
theorem varsD_v (p : Pt) (l : List ByteArray) (hl : l.length + (ownV p).length ≤ 1000000) : CallsG Try.prog 79 [.dat (encP p), .one (.po 1000 0)] 1001 9 1 (cV l) (vB true) (cV (l ++ ownV p)) := by
  (refine callsG_of_W (Ty := Ty) ty_ok Try.func79 rfl rfl rfl (by rfl) fun w0 S0 hp => ?_; simp only [argsF, gO, cellsO, List.zipIdx_cons, List.zipIdx_nil, List.map_cons, List.map_nil, Nat.zero_add])
  cases hv : emptyS p.var with
  | true =>
    have h1 : (!(p.var.toList == (⟨#[]⟩ : ByteArray).toList)) = false := by rw [str_eq _ _ hv]; rfl
    have hn : ownV p = [] := by unfold ownV; rw [if_pos hv]
    rw [hn, List.append_nil]
    repeat (first | refine W_seq ?_ | refine W_region ?_ | (refine RL_nil ?_; (first | change W _ _ _ _ _ | change EndQ _ _ _ _ _ _ | change Exists _ | change EndG _ _ _ _ _ _ _ _ _ _ | change EndM _ _ _ _ _ _ _ | skip)) | (refine isRL ?_; first | refine uAs ?_ | (refine isBin ?_; first | refine uBb true ?_ | refine uBb false ?_ | refine uP ?_ | refine uEq true ?_ | refine uEq false ?_) | (refine isLd ?_; first | refine uLp ?_ | refine uLb ?_ | refine uL1 ?_ | refine uL2 ?_ | refine uP ?_) | (refine isCl ?_; first | refine uP ?_ | refine uAk ?_ | refine uA ?_ | refine uA0 ?_ | refine uWl ?_) | (refine isFa ?_; first | refine uP ?_) | (refine isSt ?_; first | refine uSw ?_ | refine uS ?_ | refine uSc ?_) | refine uBs ?_ | refine uP ?_ | refine uBx ?_ | refine uN ?_) | refine W_cond true (by rfl) (fun _ => ?_) (fun h => by cases h) | refine W_cond false (by rfl) (fun h => by cases h) (fun _ => ?_) | (refine W_skip ?_; (first | change W _ _ _ _ _ | change EndQ _ _ _ _ _ _ | change Exists _ | change EndG _ _ _ _ _ _ _ _ _ _ | change EndM _ _ _ _ _ _ _ | skip)) | (refine W_ret ?_; (first | change W _ _ _ _ _ | change EndQ _ _ _ _ _ _ | change Exists _ | change EndG _ _ _ _ _ _ _ _ _ _ | change EndM _ _ _ _ _ _ _ | skip)))
    exact end_g (by rfl) rfl (by (repeat (first | exact gHas_nil _ | refine gHas_cons (by rfl) ?_)))
  | false =>
    have h1 : (!(p.var.toList == (⟨#[]⟩ : ByteArray).toList)) = true := by rw [str_eq _ _ hv]; rfl
    have hn : ownV p = [p.var] := by unfold ownV; rw [if_neg (by rw [hv]; decide)]
    rw [hn] at hl ⊢
    have hnx' : l.map encS ++ [encS p.var] = (l ++ [p.var]).map encS := by rw [List.map_append]; rfl
    have hlm : (l.map encS).length = l.length := List.length_map _
    simp only [List.length_singleton] at hl
    repeat (first | refine W_seq ?_ | refine W_region ?_ | (refine RL_nil ?_; (first | change W _ _ _ _ _ | change EndQ _ _ _ _ _ _ | change Exists _ | change EndG _ _ _ _ _ _ _ _ _ _ | change EndM _ _ _ _ _ _ _ | skip)) | (refine isRL ?_; first | refine uAs ?_ | (refine isBin ?_; first | refine uBb true ?_ | refine uBb false ?_ | refine uP ?_ | refine uEq true ?_ | refine uEq false ?_) | (refine isLd ?_; first | refine uLp ?_ | refine uLb ?_ | refine uL1 ?_ | refine uL2 ?_ | refine uP ?_) | (refine isCl ?_; first | refine uP ?_ | refine uAk ?_ | refine uA ?_ | refine uA0 ?_ | refine uWl ?_) | (refine isFa ?_; first | refine uP ?_) | (refine isSt ?_; first | refine uSw ?_ | refine uS ?_ | refine uSc ?_) | refine uBs ?_ | refine uP ?_ | refine uBx ?_ | refine uN ?_) | refine W_cond true (by rfl) (fun _ => ?_) (fun h => by cases h) | refine W_cond false (by rfl) (fun h => by cases h) (fun _ => ?_) | (refine W_skip ?_; (first | change W _ _ _ _ _ | change EndQ _ _ _ _ _ _ | change Exists _ | change EndG _ _ _ _ _ _ _ _ _ _ | change EndM _ _ _ _ _ _ _ | skip)) | (refine W_ret ?_; (first | change W _ _ _ _ _ | change EndQ _ _ _ _ _ _ | change Exists _ | change EndG _ _ _ _ _ _ _ _ _ _ | change EndM _ _ _ _ _ _ _ | skip)))
    exact end_g (by rfl) rfl (by (repeat (first | exact gHas_nil _ | refine gHas_cons (by rfl) ?_)))
/-- the names of the first so many -/
def upto (l : List ByteArray) (ks : List Pt) (k : Nat) : List ByteArray := l ++ (ks.take k).flatMap varsP
theorem upto_zero (l : List ByteArray) (ks : List Pt) : upto l ks 0 = l := by unfold upto; simp
theorem upto_succ {l : List ByteArray} {ks : List Pt} {k : Nat} {q : Pt} (hq : ks[k]? = some q) : upto l ks (k + 1) = upto l ks k ++ varsP q := by
  unfold upto; rw [List.take_add_one, hq, Option.toList_some, List.flatMap_append, List.flatMap_singleton, List.append_assoc]
theorem upto_len (l : List ByteArray) (ks : List Pt) (k : Nat) {q : Pt} (hq : ks[k]? = some q) : (upto l ks k).length + (varsP q).length ≤ l.length + (ks.flatMap varsP).length := by
  have h1 : upto l ks k ++ varsP q = upto l ks (k + 1) := (upto_succ hq).symm
  have h2 : ks.flatMap varsP = (ks.take (k + 1)).flatMap varsP ++ (ks.drop (k + 1)).flatMap varsP := by rw [← List.flatMap_append, List.take_append_drop]
  have h3 := congrArg List.length h1
  have h4 := congrArg List.length h2
  unfold upto at h3
  simp only [List.length_append] at h3 h4
  have h5 : (upto l ks k).length = l.length + ((ks.take k).flatMap varsP).length := by unfold upto; rw [List.length_append]
  unfold upto at h5 ⊢
  omega
set_option maxRecDepth 100000 in
set_option maxHeartbeats 4000000 in
theorem indexD_v (ks : List Pt) (l : List ByteArray) (hb : l.length + (ks.flatMap varsP).length ≤ 1000000) (hk : ∀ q ∈ ks, ∀ m : List ByteArray, m.length + (varsP q).length ≤ 1000000 → CallsG Try.prog 105 [.dat (encP q), .one (.po 1002 0)] 1001 9 1 (cD m) (vB false) (cD (m ++ varsP q))) :
    CallsG Try.prog 104 [vL (ks.map encP), .one (.fn 105 [1002])] 1001 9 1 (cD l) (vI (-1)) (cD (l ++ ks.flatMap varsP)) := by
  have hlm : (ks.map encP).length = ks.length := List.length_map _
  (refine callsG_of_W (Ty := Ty) ty_ok Try.func104 rfl rfl rfl (by rfl) fun w0 S0 hp => ?_; simp only [argsF, gO, cellsO, List.zipIdx_cons, List.zipIdx_nil, List.map_cons, List.map_nil, Nat.zero_add])
  refine W_limV (t := 0) rfl rfl fun hlim => ?_
  repeat (first | refine W_seq ?_ | refine W_region ?_ | (refine RL_nil ?_; (first | change W _ _ _ _ _ | change EndQ _ _ _ _ _ _ | change Exists _ | change EndG _ _ _ _ _ _ _ _ _ _ | change EndM _ _ _ _ _ _ _ | skip)) | (refine isRL ?_; first | refine uMv ?_ | refine uAs ?_ | (refine isBin ?_; first | refine uIb ?_ | refine uCat ?_ | refine uBb true ?_ | refine uBb false ?_ | refine uP ?_ | refine uEq true ?_ | refine uEq false ?_) | (refine isLd ?_; first | refine uLp ?_ | refine uLb ?_ | refine uL1 ?_ | refine uL2 ?_ | refine uP ?_) | (refine isCl ?_; first | refine uP ?_) | refine uX ?_ | refine uP ?_) | refine W_block ?_ | refine W_cond true (by rfl) (fun _ => ?_) (fun h => by cases h) | refine W_cond false (by rfl) (fun h => by cases h) (fun _ => ?_) | (refine W_skip ?_; (first | change W _ _ _ _ _ | change EndQ _ _ _ _ _ _ | change Exists _ | change EndG _ _ _ _ _ _ _ _ _ _ | change EndM _ _ _ _ _ _ _ | skip)) | (refine W_exit ?_; (first | change W _ _ _ _ _ | change EndQ _ _ _ _ _ _ | change Exists _ | change EndG _ _ _ _ _ _ _ _ _ _ | change EndM _ _ _ _ _ _ _ | skip)) | (refine W_ret ?_; (first | change W _ _ _ _ _ | change EndQ _ _ _ _ _ _ | change Exists _ | change EndG _ _ _ _ _ _ _ _ _ _ | change EndM _ _ _ _ _ _ _ | skip)))
  refine W_for (α := Nat) (fun k => [(0, vL (ks.map encP)), (1, .one (.fn 105 [1002])), (7, vI ((ks.map encP).length : Int)), (8, vI k)]) (fun k => [(1001, .tok 9 1), (1000, .cell 41 (lV (upto l ks k))), (1002, .cell 69 (.fn 79 [1000]))]) (fun k => k ≤ ks.length) (fun k => ks.length - k) 0 (Nat.zero_le _) (by (repeat (first | exact sub_nil _ | refine sub_cons (by rfl) ?_))) (by rw [upto_zero]; (repeat (first | exact sub_nil _ | refine sub_cons (by rfl) ?_))) ?_
  intro k hk1
  by_cases hlt : k < ks.length
  · obtain ⟨q, hq⟩ : ∃ q, ks[k]? = some q := ⟨_, List.getElem?_eq_getElem hlt⟩
    have hlen := upto_len l ks k hq
    have hQ := hk q (List.mem_of_getElem? hq) (upto l ks k) (by omega)
    rw [← upto_succ hq] at hQ
    repeat (first | refine W_seq ?_ | refine W_region ?_ | (refine RL_nil ?_; (first | change W _ _ _ _ _ | change EndQ _ _ _ _ _ _ | change Exists _ | change EndG _ _ _ _ _ _ _ _ _ _ | change EndM _ _ _ _ _ _ _ | skip)) | (refine isRL ?_; first | refine uMv ?_ | refine uAs ?_ | (refine isBin ?_; first | refine uIb ?_ | refine uCat ?_ | refine uBb true ?_ | refine uBb false ?_ | refine uP ?_ | refine uEq true ?_ | refine uEq false ?_) | (refine isLd ?_; first | refine uLp ?_ | refine uLb ?_ | refine uL1 ?_ | refine uL2 ?_ | refine uP ?_) | (refine isCl ?_; first | refine uG (hQ) ?_ | refine uP ?_) | refine uX ?_ | refine uP ?_) | refine W_block ?_ | refine W_cond true (by rfl) (fun _ => ?_) (fun h => by cases h) | refine W_cond false (by rfl) (fun h => by cases h) (fun _ => ?_) | (refine W_skip ?_; (first | change W _ _ _ _ _ | change EndQ _ _ _ _ _ _ | change Exists _ | change EndG _ _ _ _ _ _ _ _ _ _ | change EndM _ _ _ _ _ _ _ | skip)) | (refine W_exit ?_; (first | change W _ _ _ _ _ | change EndQ _ _ _ _ _ _ | change Exists _ | change EndG _ _ _ _ _ _ _ _ _ _ | change EndM _ _ _ _ _ _ _ | skip)) | (refine W_ret ?_; (first | change W _ _ _ _ _ | change EndQ _ _ _ _ _ _ | change Exists _ | change EndG _ _ _ _ _ _ _ _ _ _ | change EndM _ _ _ _ _ _ _ | skip)))
    exact ⟨k + 1, by omega, hlt, (by (repeat (first | exact sub_nil _ | refine sub_cons (by rfl) ?_))), (by (repeat (first | exact sub_nil _ | refine sub_cons (by rfl) ?_)))⟩
  · have hkl : k = ks.length := by omega
    subst hkl
    have hfin : upto l ks ks.length = l ++ ks.flatMap varsP := by unfold upto; rw [List.take_length]
    rw [hfin]
    repeat (first | refine W_seq ?_ | refine W_region ?_ | (refine RL_nil ?_; (first | change W _ _ _ _ _ | change EndQ _ _ _ _ _ _ | change Exists _ | change EndG _ _ _ _ _ _ _ _ _ _ | change EndM _ _ _ _ _ _ _ | skip)) | (refine isRL ?_; first | refine uMv ?_ | refine uAs ?_ | (refine isBin ?_; first | refine uIb ?_ | refine uCat ?_ | refine uBb true ?_ | refine uBb false ?_ | refine uP ?_ | refine uEq true ?_ | refine uEq false ?_) | (refine isLd ?_; first | refine uLp ?_ | refine uLb ?_ | refine uL1 ?_ | refine uL2 ?_ | refine uP ?_) | (refine isCl ?_; first | refine uP ?_) | refine uX ?_ | refine uP ?_) | refine W_block ?_ | refine W_cond true (by rfl) (fun _ => ?_) (fun h => by cases h) | refine W_cond false (by rfl) (fun h => by cases h) (fun _ => ?_) | (refine W_skip ?_; (first | change W _ _ _ _ _ | change EndQ _ _ _ _ _ _ | change Exists _ | change EndG _ _ _ _ _ _ _ _ _ _ | change EndM _ _ _ _ _ _ _ | skip)) | (refine W_exit ?_; (first | change W _ _ _ _ _ | change EndQ _ _ _ _ _ _ | change Exists _ | change EndG _ _ _ _ _ _ _ _ _ _ | change EndM _ _ _ _ _ _ _ | skip)) | (refine W_ret ?_; (first | change W _ _ _ _ _ | change EndQ _ _ _ _ _ _ | change Exists _ | change EndG _ _ _ _ _ _ _ _ _ _ | change EndM _ _ _ _ _ _ _ | skip)))
    exact end_g (by rfl) rfl (by (repeat (first | exact gHas_nil _ | refine gHas_cons (by rfl) ?_)))
set_option maxRecDepth 100000 in
theorem containsD_v (ks : List Pt) (l : List ByteArray) (hb : l.length + (ks.flatMap varsP).length ≤ 1000000) (hk : ∀ q ∈ ks, ∀ m : List ByteArray, m.length + (varsP q).length ≤ 1000000 → CallsG Try.prog 105 [.dat (encP q), .one (.po 1002 0)] 1001 9 1 (cD m) (vB false) (cD (m ++ varsP q))) :
    CallsG Try.prog 76 [vL (ks.map encP), .one (.fn 105 [1002])] 1001 9 1 (cD l) (vB false) (cD (l ++ ks.flatMap varsP)) := by
  have hI := indexD_v ks l hb hk
  (refine callsG_of_W (Ty := Ty) ty_ok Try.func76 rfl rfl rfl (by rfl) fun w0 S0 hp => ?_; simp only [argsF, gO, cellsO, List.zipIdx_cons, List.zipIdx_nil, List.map_cons, List.map_nil, Nat.zero_add])
  repeat (first | refine W_seq ?_ | refine W_region ?_ | (refine RL_nil ?_; (first | change W _ _ _ _ _ | change EndQ _ _ _ _ _ _ | change Exists _ | change EndG _ _ _ _ _ _ _ _ _ _ | change EndM _ _ _ _ _ _ _ | skip)) | (refine isRL ?_; first | refine uMv ?_ | refine uAs ?_ | (refine isBin ?_; first | refine uBb true ?_ | refine uBb false ?_ | refine uP ?_ | refine uEq true ?_ | refine uEq false ?_) | (refine isCl ?_; first | refine uG (hI) ?_ | refine uP ?_) | refine uP ?_) | (refine W_skip ?_; (first | change W _ _ _ _ _ | change EndQ _ _ _ _ _ _ | change Exists _ | change EndG _ _ _ _ _ _ _ _ _ _ | change EndM _ _ _ _ _ _ _ | skip)) | (refine W_ret ?_; (first | change W _ _ _ _ _ | change EndQ _ _ _ _ _ _ | change Exists _ | change EndG _ _ _ _ _ _ _ _ _ _ | change EndM _ _ _ _ _ _ _ | skip)))
  exact end_g (by rfl) rfl (by (repeat (first | exact gHas_nil _ | refine gHas_cons (by rfl) ?_)))
set_option maxRecDepth 100000 in
set_option maxHeartbeats 4000000 in
theorem walkD_v : ∀ (p : Pt) (l : List ByteArray), l.length + (varsP p).length ≤ 1000000 → CallsG Try.prog 78 [.dat (encP p), .one (.fn 79 [1000])] 1001 9 1 (cV l) (vB true) (cV (l ++ varsP p)) := Pt.ind fun p ih l hl => by
  have hC1 : ∀ q ∈ p.kids, ∀ m : List ByteArray, m.length + (varsP q).length ≤ 1000000 → CallsG Try.prog 105 [.dat (encP q), .one (.po 1002 0)] 1001 9 1 (cD m) (vB false) (cD (m ++ varsP q)) := fun q hq m hm => by
    have hW := ih q hq m hm
    (refine callsG_of_W (Ty := Ty) ty_ok Try.func105 rfl rfl rfl (by rfl) fun w0 S0 hp => ?_; simp only [argsF, gO, cellsO, List.zipIdx_cons, List.zipIdx_nil, List.map_cons, List.map_nil, Nat.zero_add])
    repeat (first | refine W_seq ?_ | refine W_region ?_ | (refine RL_nil ?_; (first | change W _ _ _ _ _ | change EndQ _ _ _ _ _ _ | change Exists _ | change EndG _ _ _ _ _ _ _ _ _ _ | change EndM _ _ _ _ _ _ _ | skip)) | (refine isRL ?_; first | refine uAs ?_ | (refine isLd ?_; first | refine uLp ?_ | refine uLb ?_ | refine uL1 ?_ | refine uL2 ?_ | refine uP ?_) | (refine isCl ?_; first | refine uG (hW) ?_ | refine uP ?_) | refine uBu true ?_ | refine uBu false ?_ | refine uP ?_ | refine uBx ?_ | refine uN ?_) | (refine W_skip ?_; (first | change W _ _ _ _ _ | change EndQ _ _ _ _ _ _ | change Exists _ | change EndG _ _ _ _ _ _ _ _ _ _ | change EndM _ _ _ _ _ _ _ | skip)) | (refine W_ret ?_; (first | change W _ _ _ _ _ | change EndQ _ _ _ _ _ _ | change Exists _ | change EndG _ _ _ _ _ _ _ _ _ _ | change EndM _ _ _ _ _ _ _ | skip)))
    exact end_g (by rfl) rfl (by (repeat (first | exact gHas_nil _ | refine gHas_cons (by rfl) ?_)))
  rw [varsP_eq, List.length_append] at hl
  have hD := varsD_v p l (by omega)
  have hC := containsD_v p.kids (l ++ ownV p) (by rw [List.length_append]; omega) hC1
  rw [varsP_eq, ← List.append_assoc]
  (refine callsG_of_W (Ty := Ty) ty_ok Try.func78 rfl rfl rfl (by rfl) fun w0 S0 hp => ?_; simp only [argsF, gO, cellsO, List.zipIdx_cons, List.zipIdx_nil, List.map_cons, List.map_nil, Nat.zero_add])
  repeat (first | refine W_seq ?_ | refine W_region ?_ | (refine RL_nil ?_; (first | change W _ _ _ _ _ | change EndQ _ _ _ _ _ _ | change Exists _ | change EndG _ _ _ _ _ _ _ _ _ _ | change EndM _ _ _ _ _ _ _ | skip)) | (refine isRL ?_; first | refine uMv ?_ | refine uAs ?_ | refine uO ?_ | (refine isLd ?_; first | refine uLp ?_ | refine uLb ?_ | refine uL1 ?_ | refine uL2 ?_ | refine uP ?_) | (refine isCl ?_; first | refine uG (hD) ?_ | refine uP ?_) | (refine isFa ?_; first | refine uP ?_) | refine uBu true ?_ | refine uBu false ?_ | refine uP ?_ | refine uBx ?_ | refine uN ?_) | (refine W_skip ?_; (first | change W _ _ _ _ _ | change EndQ _ _ _ _ _ _ | change Exists _ | change EndG _ _ _ _ _ _ _ _ _ _ | change EndM _ _ _ _ _ _ _ | skip)) | (refine W_ret ?_; (first | change W _ _ _ _ _ | change EndQ _ _ _ _ _ _ | change Exists _ | change EndG _ _ _ _ _ _ _ _ _ _ | change EndM _ _ _ _ _ _ _ | skip)))
  refine uRn 3 1002 (pin_none (hp 1002 rfl)) ?_
  repeat (first | refine W_seq ?_ | refine W_region ?_ | (refine RL_nil ?_; (first | change W _ _ _ _ _ | change EndQ _ _ _ _ _ _ | change Exists _ | change EndG _ _ _ _ _ _ _ _ _ _ | change EndM _ _ _ _ _ _ _ | skip)) | (refine isRL ?_; first | refine uMv ?_ | refine uAs ?_ | refine uO ?_ | (refine isLd ?_; first | refine uLp ?_ | refine uLb ?_ | refine uL1 ?_ | refine uL2 ?_ | refine uP ?_) | (refine isCl ?_; first | refine uG (hC) ?_ | refine uP ?_) | (refine isFa ?_; first | refine uP ?_) | refine uBu true ?_ | refine uBu false ?_ | refine uP ?_ | refine uBx ?_ | refine uN ?_) | (refine W_skip ?_; (first | change W _ _ _ _ _ | change EndQ _ _ _ _ _ _ | change Exists _ | change EndG _ _ _ _ _ _ _ _ _ _ | change EndM _ _ _ _ _ _ _ | skip)) | (refine W_ret ?_; (first | change W _ _ _ _ _ | change EndQ _ _ _ _ _ _ | change Exists _ | change EndG _ _ _ _ _ _ _ _ _ _ | change EndM _ _ _ _ _ _ _ | skip)))
  exact end_g (by rfl) rfl (by (repeat (first | exact gHas_nil _ | refine gHas_cons (by rfl) ?_)))
end Go.Proofs.Ytjhkehloipmjfaa
/- Walks: the names of variables in a pattern, sorted. -/
namespace Go.Proofs.Ytjhkehloipmjfaa
open Go.RowKit
set_option maxRecDepth 100000 in
theorem vars_v (hc : SortsG Try.prog 80) (p : Pt) (hl : (varsP p).length ≤ 1000000) : CallsV Try.prog 49 [.dat (encP p)] (.own 9 1 ((sortB (varsP p)).map encS)) := by
  have hW := walkD_v p [] (by simpa using hl)
  rw [List.nil_append] at hW
  refine callsV_of_WN (Ty := Ty) ty_ok Try.func49 rfl rfl rfl fun w0 S0 hS hp => ?_
  simp only [argsF, List.zipIdx_cons, List.zipIdx_nil, List.map_cons, List.map_nil, Nat.zero_add]
  repeat (first | refine W_seq ?_ | refine W_region ?_ | (refine RL_nil ?_; (first | change W _ _ _ _ _ | change EndQ _ _ _ _ _ _ | change Exists _ | change EndG _ _ _ _ _ _ _ _ _ _ | change EndM _ _ _ _ _ _ _ | skip)) | (refine isRL ?_; first | refine uMv ?_ | refine uAs ?_ | refine uO ?_ | (refine isLd ?_; first | refine uLp ?_ | refine uLb ?_ | refine uL1 ?_ | refine uL2 ?_ | refine uP ?_) | (refine isCl ?_; first | refine uP ?_) | (refine isFa ?_; first | refine uP ?_) | refine uBu true ?_ | refine uBu false ?_ | refine uP ?_ | refine uBx ?_ | refine uN ?_) | (refine W_skip ?_; (first | change W _ _ _ _ _ | change EndQ _ _ _ _ _ _ | change Exists _ | change EndG _ _ _ _ _ _ _ _ _ _ | change EndM _ _ _ _ _ _ _ | skip)) | (refine W_ret ?_; (first | change W _ _ _ _ _ | change EndQ _ _ _ _ _ _ | change Exists _ | change EndG _ _ _ _ _ _ _ _ _ _ | change EndM _ _ _ _ _ _ _ | skip)))
  refine uNc 3 1001 9 1 ?_
  refine uRn 3 1000 (pin_none (hp 1000)) ?_
  repeat (first | refine W_seq ?_ | refine W_region ?_ | (refine RL_nil ?_; (first | change W _ _ _ _ _ | change EndQ _ _ _ _ _ _ | change Exists _ | change EndG _ _ _ _ _ _ _ _ _ _ | change EndM _ _ _ _ _ _ _ | skip)) | (refine isRL ?_; first | refine uMv ?_ | refine uAs ?_ | refine uO ?_ | (refine isLd ?_; first | refine uLp ?_ | refine uLb ?_ | refine uL1 ?_ | refine uL2 ?_ | refine uP ?_) | (refine isCl ?_; first | refine uG (hW) ?_ | refine uP ?_) | (refine isFa ?_; first | refine uP ?_) | refine uBu true ?_ | refine uBu false ?_ | refine uP ?_ | refine uBx ?_ | refine uN ?_) | (refine W_skip ?_; (first | change W _ _ _ _ _ | change EndQ _ _ _ _ _ _ | change Exists _ | change EndG _ _ _ _ _ _ _ _ _ _ | change EndM _ _ _ _ _ _ _ | skip)) | (refine W_ret ?_; (first | change W _ _ _ _ _ | change EndQ _ _ _ _ _ _ | change Exists _ | change EndG _ _ _ _ _ _ _ _ _ _ | change EndM _ _ _ _ _ _ _ | skip)))
  refine uSt 1001 1000 (varsP p) hc hS hl ?_
  repeat (first | refine W_seq ?_ | refine W_region ?_ | (refine RL_nil ?_; (first | change W _ _ _ _ _ | change EndQ _ _ _ _ _ _ | change Exists _ | change EndG _ _ _ _ _ _ _ _ _ _ | change EndM _ _ _ _ _ _ _ | skip)) | (refine isRL ?_; first | refine uMv ?_ | refine uAs ?_ | refine uO ?_ | (refine isLd ?_; first | refine uLp ?_ | refine uLb ?_ | refine uL1 ?_ | refine uL2 ?_ | refine uP ?_) | (refine isCl ?_; first | refine uP ?_) | (refine isFa ?_; first | refine uP ?_) | refine uBu true ?_ | refine uBu false ?_ | refine uP ?_ | refine uBx ?_ | refine uN ?_) | (refine W_skip ?_; (first | change W _ _ _ _ _ | change EndQ _ _ _ _ _ _ | change Exists _ | change EndG _ _ _ _ _ _ _ _ _ _ | change EndM _ _ _ _ _ _ _ | skip)) | (refine W_ret ?_; (first | change W _ _ _ _ _ | change EndQ _ _ _ _ _ _ | change Exists _ | change EndG _ _ _ _ _ _ _ _ _ _ | change EndM _ _ _ _ _ _ _ | skip)))
  exact ⟨1001, by rfl, by rfl⟩
end Go.Proofs.Ytjhkehloipmjfaa
