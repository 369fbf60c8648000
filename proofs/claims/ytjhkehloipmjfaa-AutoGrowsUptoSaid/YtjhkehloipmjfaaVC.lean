/- Walks: expressions: how many parts, how deep, which are right. -/
import Derived.Test.YtjhkehloipmjfaaWH
namespace Go.Proofs.Ytjhkehloipmjfaa
open Go.RowKit
theorem str_eq (s : ByteArray) (b : Bool) (h : emptyS s = b) : (s.toList == ByteArray.toList ⟨#[]⟩) = b := by
  rw [← h, emptyS, ByteArray.toList_eq, ByteArray.toList_eq]
  cases s.data.toList <;> rfl
theorem str_ne (s : ByteArray) (b : Bool) (h : emptyS s = b) : (!(s.toList == ByteArray.toList ⟨#[]⟩)) = !b := by rw [str_eq s b h]
theorem foldl_next {α β : Type} {g : β → α → β} {l : List α} {k : Nat} {q : α} {b : β} (hq : l[k]? = some q) : (l.take (k + 1)).foldl g b = g ((l.take k).foldl g b) q := by
  rw [List.take_add_one, hq, Option.toList_some, List.foldl_append]; rfl
set_option maxRecDepth 100000 in
theorem countE_v : ∀ e : E, CallsV Try.prog 18 [.dat (encE e)] (.val (vI (countE e))) := E.ind fun e ih => by
  (refine callsV_of_W (Ty := Ty) ty_ok Try.func18 rfl rfl rfl fun w0 S0 => ?_; simp only [argsF, List.zipIdx_cons, List.zipIdx_nil, List.map_cons, List.map_nil, Nat.zero_add])
  have hlm : (e.kids.map encE).length = e.kids.length := List.length_map _
  repeat (first | refine W_seq ?_ | refine W_region ?_ | ((first | refine RL_nil ?_ | refine W_skip ?_ | refine W_exit ?_ | refine W_ret ?_); (first | change W _ _ _ _ _ | change EndQ _ _ _ _ _ _ | change Exists _ | skip)) | (refine isRL ?_; first | refine uMv ?_ | refine uAs ?_ | (refine isBin ?_; first | refine uIb ?_ | refine uCat ?_ | refine uBb true ?_ | refine uBb false ?_ | refine uP ?_) | (refine isLd ?_; first | refine uLp ?_ | refine uLb ?_ | refine uL1 ?_ | refine uL2 ?_ | refine uP ?_) | (refine isCl ?_; first | refine uP ?_) | (refine isFa ?_; first | refine uP ?_) | refine uX ?_ | refine uP ?_ | refine uBx ?_ | refine uN ?_) | refine W_block ?_ | refine wT fun _ => ?_ | refine wF fun _ => ?_)
  refine W_for (α := Nat) (fun k => [(1, .one (.po 1 0)), (3, vI ((e.kids.take k).foldl (fun n q => IntKind.i64.wrap (n + countE q)) 1)), (4, vI k)]) (fun _ => [(1, .box 27 (encE e))]) (fun k => k ≤ e.kids.length) (fun k => e.kids.length - k) 0 (Nat.zero_le _) (by (repeat (first | exact sub_nil _ | refine sub_cons (by rfl) ?_))) (by (repeat (first | exact sub_nil _ | refine sub_cons (by rfl) ?_))) ?_
  intro k hk
  refine W_limB (k := 1) (j := 6) (rows := e.kids.map encE) rfl (by rw [encE_eq]; rfl) fun hlim => ?_
  by_cases hlt : k < e.kids.length
  · obtain ⟨q, hq⟩ : ∃ q, e.kids[k]? = some q := ⟨_, List.getElem?_eq_getElem hlt⟩
    have hQ := ih q (List.mem_of_getElem? hq)
    have hnx := foldl_next (g := fun (n : Int) q => IntKind.i64.wrap (n + countE q)) (b := 1) hq
    repeat (first | refine W_seq ?_ | refine W_region ?_ | ((first | refine RL_nil ?_ | refine W_skip ?_ | refine W_exit ?_ | refine W_ret ?_); (first | change W _ _ _ _ _ | change EndQ _ _ _ _ _ _ | change Exists _ | skip)) | (refine isRL ?_; first | refine uMv ?_ | refine uAs ?_ | (refine isBin ?_; first | refine uIb ?_ | refine uCat ?_ | refine uBb true ?_ | refine uBb false ?_ | refine uP ?_) | (refine isLd ?_; first | refine uLp ?_ | refine uLb ?_ | refine uL1 ?_ | refine uL2 ?_ | refine uP ?_) | (refine isCl ?_; first | refine uC (hQ) ?_ | refine uP ?_) | (refine isFa ?_; first | refine uP ?_) | refine uX ?_ | refine uP ?_ | refine uBx ?_ | refine uN ?_) | refine W_block ?_ | refine wT fun _ => ?_ | refine wF fun _ => ?_)
    rw [← hnx]
    exact ⟨k + 1, by omega, hlt, (by (repeat (first | exact sub_nil _ | refine sub_cons (by rfl) ?_))), (by (repeat (first | exact sub_nil _ | refine sub_cons (by rfl) ?_)))⟩
  · have hkl : k = e.kids.length := by omega
    subst hkl
    rw [List.take_length]
    repeat (first | refine W_seq ?_ | refine W_region ?_ | ((first | refine RL_nil ?_ | refine W_skip ?_ | refine W_exit ?_ | refine W_ret ?_); (first | change W _ _ _ _ _ | change EndQ _ _ _ _ _ _ | change Exists _ | skip)) | (refine isRL ?_; first | refine uMv ?_ | refine uAs ?_ | (refine isBin ?_; first | refine uIb ?_ | refine uCat ?_ | refine uBb true ?_ | refine uBb false ?_ | refine uP ?_) | (refine isLd ?_; first | refine uLp ?_ | refine uLb ?_ | refine uL1 ?_ | refine uL2 ?_ | refine uP ?_) | (refine isCl ?_; first | refine uP ?_) | (refine isFa ?_; first | refine uP ?_) | refine uX ?_ | refine uP ?_ | refine uBx ?_ | refine uN ?_) | refine W_block ?_ | refine wT fun _ => ?_ | refine wF fun _ => ?_)
    exact end_r (by rfl) (vI_eq (countE_eq e).symm)
theorem max_i (a b : Nat) : (if ((b : Int) > (a : Int)) then (b : Int) else (a : Int)) = ((max a b : Nat) : Int) := by
  split <;> omega
set_option maxRecDepth 100000 in
theorem depthE_v : ∀ (n : Nat) (_hn : n ≤ 50) (e : E), CallsV Try.prog 44 [.dat (encE e), vI n] (.val (vI (depthE n e)))
  | 0, _, e => by
    (refine callsV_of_W (Ty := Ty) ty_ok Try.func44 rfl rfl rfl fun w0 S0 => ?_; simp only [argsF, List.zipIdx_cons, List.zipIdx_nil, List.map_cons, List.map_nil, Nat.zero_add])
    repeat (first | refine W_seq ?_ | refine W_region ?_ | ((first | refine RL_nil ?_ | refine W_skip ?_ | refine W_exit ?_ | refine W_ret ?_); (first | change W _ _ _ _ _ | change EndQ _ _ _ _ _ _ | change Exists _ | skip)) | (refine isRL ?_; first | refine uMv ?_ | refine uAs ?_ | (refine isBin ?_; first | refine uIb ?_ | refine uCat ?_ | refine uBb true ?_ | refine uBb false ?_ | refine uP ?_) | (refine isLd ?_; first | refine uLp ?_ | refine uLb ?_ | refine uL1 ?_ | refine uL2 ?_ | refine uP ?_) | (refine isCl ?_; first | refine uP ?_) | (refine isFa ?_; first | refine uP ?_) | (refine isSt ?_; first | refine uSw ?_ | refine uS ?_ | refine uSc ?_) | refine uX ?_ | refine uP ?_ | refine uBx ?_ | refine uN ?_) | refine W_block ?_ | refine wT fun _ => ?_ | refine wF fun _ => ?_)
    exact end_r (by rfl) (vI_eq (by rw [depthE_zero]; rfl))
  | n + 1, hn, e => by
    have ih : ∀ q : E, CallsV Try.prog 44 [.dat (encE q), vI (((n + 1 : Nat) : Int) - 1)] (.val (vI (depthE n q))) := fun q => by
      rw [show ((n + 1 : Nat) : Int) - 1 = n by omega]; exact depthE_v n (by omega) q
    (refine callsV_of_W (Ty := Ty) ty_ok Try.func44 rfl rfl rfl fun w0 S0 => ?_; simp only [argsF, List.zipIdx_cons, List.zipIdx_nil, List.map_cons, List.map_nil, Nat.zero_add])
    have hlm : (e.kids.map encE).length = e.kids.length := List.length_map _
    refine W_seq ?_
    repeat (first | refine W_seq ?_ | refine W_region ?_ | ((first | refine RL_nil ?_ | refine W_skip ?_ | refine W_exit ?_ | refine W_ret ?_); (first | change W _ _ _ _ _ | change EndQ _ _ _ _ _ _ | change Exists _ | skip)) | (refine isRL ?_; first | refine uMv ?_ | refine uAs ?_ | (refine isBin ?_; first | refine uIb ?_ | refine uCat ?_ | refine uBb true ?_ | refine uBb false ?_ | refine uP ?_) | (refine isLd ?_; first | refine uLp ?_ | refine uLb ?_ | refine uL1 ?_ | refine uL2 ?_ | refine uP ?_) | (refine isCl ?_; first | refine uP ?_) | (refine isFa ?_; first | refine uP ?_) | (refine isSt ?_; first | refine uSw ?_ | refine uS ?_ | refine uSc ?_) | refine uX ?_ | refine uP ?_ | refine uBx ?_ | refine uN ?_) | refine W_block ?_ | refine wT fun _ => ?_ | refine wF fun _ => ?_)
    refine W_for (α := Nat) (fun k => [(1, vI ((n + 1 : Nat) : Int)), (2, .one (.po 2 0)), (5, vI (((e.kids.take k).foldl (fun d q => max d (depthE n q)) 0 : Nat) : Int)), (11, vL (e.kids.map encE)), (12, vI ((e.kids.map encE).length : Int)), (13, vI k)]) (fun _ => [(2, .box 27 (encE e))]) (fun k => k ≤ e.kids.length) (fun k => e.kids.length - k) 0 (Nat.zero_le _) (by (repeat (first | exact sub_nil _ | refine sub_cons (by rfl) ?_))) (by (repeat (first | exact sub_nil _ | refine sub_cons (by rfl) ?_))) ?_
    intro k hk
    refine W_limV (t := 11) rfl rfl fun hlim => ?_
    by_cases hlt : k < e.kids.length
    · obtain ⟨q, hq⟩ : ∃ q, e.kids[k]? = some q := ⟨_, List.getElem?_eq_getElem hlt⟩
      have hQ := ih q
      have hnx := foldl_next (g := fun (d : Nat) q => max d (depthE n q)) (b := 0) hq
      repeat (first | refine W_seq ?_ | refine W_region ?_ | ((first | refine RL_nil ?_ | refine W_skip ?_ | refine W_exit ?_ | refine W_ret ?_); (first | change W _ _ _ _ _ | change EndQ _ _ _ _ _ _ | change Exists _ | skip)) | (refine isRL ?_; first | refine uMv ?_ | refine uAs ?_ | (refine isBin ?_; first | refine uIb ?_ | refine uCat ?_ | refine uBb true ?_ | refine uBb false ?_ | refine uP ?_) | (refine isLd ?_; first | refine uLp ?_ | refine uLb ?_ | refine uL1 ?_ | refine uL2 ?_ | refine uP ?_) | (refine isCl ?_; first | refine uC (hQ) ?_ | refine uP ?_) | (refine isFa ?_; first | refine uP ?_) | (refine isSt ?_; first | refine uSw ?_ | refine uS ?_ | refine uSc ?_) | refine uX ?_ | refine uP ?_ | refine uBx ?_ | refine uN ?_) | refine W_block ?_ | refine wT fun _ => ?_ | refine wF fun _ => ?_)
      rw [max_i, ← hnx]
      exact ⟨k + 1, by omega, hlt, (by (repeat (first | exact sub_nil _ | refine sub_cons (by rfl) ?_))), (by (repeat (first | exact sub_nil _ | refine sub_cons (by rfl) ?_)))⟩
    · have hkl : k = e.kids.length := by omega
      subst hkl
      rw [List.take_length]
      have hle := depthE_le (n + 1) e
      rw [depthE_succ] at hle
      repeat (first | refine W_seq ?_ | refine W_region ?_ | ((first | refine RL_nil ?_ | refine W_skip ?_ | refine W_exit ?_ | refine W_ret ?_); (first | change W _ _ _ _ _ | change EndQ _ _ _ _ _ _ | change Exists _ | skip)) | (refine isRL ?_; first | refine uMv ?_ | refine uAs ?_ | (refine isBin ?_; first | refine uIb ?_ | refine uCat ?_ | refine uBb true ?_ | refine uBb false ?_ | refine uP ?_) | (refine isLd ?_; first | refine uLp ?_ | refine uLb ?_ | refine uL1 ?_ | refine uL2 ?_ | refine uP ?_) | (refine isCl ?_; first | refine uP ?_) | (refine isFa ?_; first | refine uP ?_) | (refine isSt ?_; first | refine uSw ?_ | refine uS ?_ | refine uSc ?_) | refine uX ?_ | refine uP ?_ | refine uBx ?_ | refine uN ?_) | refine W_block ?_ | refine wT fun _ => ?_ | refine wF fun _ => ?_)
      exact end_r (by rfl) (vI_eq (by rw [depthE_succ]; rfl))
set_option maxRecDepth 100000 in
theorem DepthE_v (e : E) : CallsV Try.prog 19 [.dat (encE e)] (.val (vI (depthE 50 e))) := by
  have h := depthE_v 50 (Nat.le_refl _) e
  have hle := depthE_le 50 e
  (refine callsV_of_W (Ty := Ty) ty_ok Try.func19 rfl rfl rfl fun w0 S0 => ?_; simp only [argsF, List.zipIdx_cons, List.zipIdx_nil, List.map_cons, List.map_nil, Nat.zero_add])
  repeat (first | refine W_seq ?_ | refine W_region ?_ | ((first | refine RL_nil ?_ | refine W_skip ?_ | refine W_ret ?_); (first | change W _ _ _ _ _ | change EndQ _ _ _ _ _ _ | change Exists _ | skip)) | (refine isRL ?_; first | refine uAs ?_ | (refine isLd ?_; first | refine uLp ?_ | refine uLb ?_ | refine uL1 ?_ | refine uL2 ?_ | refine uP ?_) | (refine isCl ?_; first | refine uC (h) ?_ | refine uP ?_) | refine uP ?_ | refine uBx ?_ | refine uN ?_))
  exact end_r (by rfl) (vI_eq (by rw [if_neg]; omega))
/-! ### slices.ContainsFunc -/
def idxF {α : Type} (f : α → Bool) : List α → Nat → Int
  | [], _ => -1
  | x :: l, k => if f x = true then k else idxF f l (k + 1)
theorem idxF_cons {α : Type} (f : α → Bool) (x : α) (l : List α) (k : Nat) : idxF f (x :: l) k = if f x = true then (k : Int) else idxF f l (k + 1) := rfl
theorem idxF_nil {α : Type} (f : α → Bool) (k : Nat) : idxF f [] k = -1 := rfl
theorem idxF_any {α : Type} (f : α → Bool) : ∀ (l : List α) (k : Nat), decide (0 ≤ idxF f l k) = l.any f
  | [], k => rfl
  | x :: l, k => by
    unfold idxF
    rw [List.any_cons]
    cases h : f x with
    | true => simp
    | false => rw [if_neg (by decide), idxF_any f l]; simp
set_option maxRecDepth 100000 in
theorem indexE_v (l : List E) (g : FuncId) (caps : List (List D)) (f : E → Bool) (hg : ∀ e ∈ l, CallsV Try.prog g (.dat (encE e) :: caps.map fun q => .one (.d (.pi q))) (.val (vB (f e)))) :
    CallsV Try.prog 93 [vL (l.map encE), .one (.d (.fn g caps))] (.val (vI (idxF f l 0))) := by
  (refine callsV_of_W (Ty := Ty) ty_ok Try.func93 rfl rfl rfl fun w0 S0 => ?_; simp only [argsF, List.zipIdx_cons, List.zipIdx_nil, List.map_cons, List.map_nil, Nat.zero_add])
  have hlm : (l.map encE).length = l.length := List.length_map _
  refine W_limV (t := 0) rfl rfl fun hlim => ?_
  repeat (first | refine W_seq ?_ | refine W_region ?_ | ((first | refine RL_nil ?_ | refine W_skip ?_ | refine W_exit ?_ | refine W_ret ?_); (first | change W _ _ _ _ _ | change EndQ _ _ _ _ _ _ | change Exists _ | skip)) | (refine isRL ?_; first | refine uMv ?_ | refine uAs ?_ | (refine isBin ?_; first | refine uIb ?_ | refine uCat ?_ | refine uBb true ?_ | refine uBb false ?_ | refine uP ?_) | (refine isLd ?_; first | refine uLp ?_ | refine uLb ?_ | refine uL1 ?_ | refine uL2 ?_ | refine uP ?_) | (refine isCl ?_; first | refine uP ?_) | refine uX ?_ | refine uP ?_) | refine W_block ?_ | refine wT fun _ => ?_ | refine wF fun _ => ?_)
  refine W_for (α := Nat) (fun k => [(0, vL (l.map encE)), (1, .one (.d (.fn g caps))), (7, vI ((l.map encE).length : Int)), (8, vI k)]) (fun _ => []) (fun k => k ≤ l.length ∧ idxF f l 0 = idxF f (l.drop k) k) (fun k => l.length - k) 0 ⟨Nat.zero_le _, rfl⟩ (by (repeat (first | exact sub_nil _ | refine sub_cons (by rfl) ?_))) (by (repeat (first | exact sub_nil _ | refine sub_cons (by rfl) ?_))) ?_
  intro k ⟨hk, hi⟩
  by_cases hlt : k < l.length
  · obtain ⟨q, hq⟩ : ∃ q, l[k]? = some q := ⟨_, List.getElem?_eq_getElem hlt⟩
    have hQ := hg q (List.mem_of_getElem? hq)
    have hd : l.drop k = q :: l.drop (k + 1) := by
      rw [List.drop_eq_getElem_cons hlt]
      rw [List.getElem?_eq_getElem hlt] at hq
      injection hq with hq
      rw [hq]
    rw [hd, idxF_cons] at hi
    cases hf : f q with
    | true =>
      rw [hf] at hQ
      rw [hf, if_pos rfl] at hi
      repeat (first | refine W_seq ?_ | refine W_region ?_ | ((first | refine RL_nil ?_ | refine W_skip ?_ | refine W_exit ?_ | refine W_ret ?_); (first | change W _ _ _ _ _ | change EndQ _ _ _ _ _ _ | change Exists _ | skip)) | (refine isRL ?_; first | refine uMv ?_ | refine uAs ?_ | (refine isBin ?_; first | refine uIb ?_ | refine uCat ?_ | refine uBb true ?_ | refine uBb false ?_ | refine uP ?_) | (refine isLd ?_; first | refine uLp ?_ | refine uLb ?_ | refine uL1 ?_ | refine uL2 ?_ | refine uP ?_) | (refine isCl ?_; first | refine uDc (hQ) ?_ | refine uP ?_) | refine uX ?_ | refine uP ?_) | refine W_block ?_ | refine wT fun _ => ?_ | refine wF fun _ => ?_)
      exact end_r (by rfl) (vI_eq hi.symm)
    | false =>
      rw [hf] at hQ
      rw [hf, if_neg (by decide)] at hi
      repeat (first | refine W_seq ?_ | refine W_region ?_ | ((first | refine RL_nil ?_ | refine W_skip ?_ | refine W_exit ?_ | refine W_ret ?_); (first | change W _ _ _ _ _ | change EndQ _ _ _ _ _ _ | change Exists _ | skip)) | (refine isRL ?_; first | refine uMv ?_ | refine uAs ?_ | (refine isBin ?_; first | refine uIb ?_ | refine uCat ?_ | refine uBb true ?_ | refine uBb false ?_ | refine uP ?_) | (refine isLd ?_; first | refine uLp ?_ | refine uLb ?_ | refine uL1 ?_ | refine uL2 ?_ | refine uP ?_) | (refine isCl ?_; first | refine uDc (hQ) ?_ | refine uP ?_) | refine uX ?_ | refine uP ?_) | refine W_block ?_ | refine wT fun _ => ?_ | refine wF fun _ => ?_)
      exact ⟨k + 1, by omega, ⟨hlt, hi⟩, (by (repeat (first | exact sub_nil _ | refine sub_cons (by rfl) ?_))), (by (repeat (first | exact sub_nil _ | refine sub_cons (by rfl) ?_)))⟩
  · rw [List.drop_of_length_le (by omega), idxF_nil] at hi
    repeat (first | refine W_seq ?_ | refine W_region ?_ | ((first | refine RL_nil ?_ | refine W_skip ?_ | refine W_exit ?_ | refine W_ret ?_); (first | change W _ _ _ _ _ | change EndQ _ _ _ _ _ _ | change Exists _ | skip)) | (refine isRL ?_; first | refine uMv ?_ | refine uAs ?_ | (refine isBin ?_; first | refine uIb ?_ | refine uCat ?_ | refine uBb true ?_ | refine uBb false ?_ | refine uP ?_) | (refine isLd ?_; first | refine uLp ?_ | refine uLb ?_ | refine uL1 ?_ | refine uL2 ?_ | refine uP ?_) | (refine isCl ?_; first | refine uP ?_) | refine uX ?_ | refine uP ?_) | refine W_block ?_ | refine wT fun _ => ?_ | refine wF fun _ => ?_)
    exact end_r (by rfl) (vI_eq hi.symm)
set_option maxRecDepth 100000 in
theorem containsE_v (l : List E) (g : FuncId) (caps : List (List D)) (f : E → Bool) (hg : ∀ e ∈ l, CallsV Try.prog g (.dat (encE e) :: caps.map fun q => .one (.d (.pi q))) (.val (vB (f e)))) :
    CallsV Try.prog 66 [vL (l.map encE), .one (.d (.fn g caps))] (.val (vB (l.any f))) := by
  have hI := indexE_v l g caps f hg
  have hd := idxF_any f l 0
  (refine callsV_of_W (Ty := Ty) ty_ok Try.func66 rfl rfl rfl fun w0 S0 => ?_; simp only [argsF, List.zipIdx_cons, List.zipIdx_nil, List.map_cons, List.map_nil, Nat.zero_add])
  cases ha : l.any f with
  | true =>
    rw [ha, decide_eq_true_eq] at hd
    repeat (first | refine W_seq ?_ | refine W_region ?_ | ((first | refine RL_nil ?_ | refine W_skip ?_ | refine W_ret ?_); (first | change W _ _ _ _ _ | change EndQ _ _ _ _ _ _ | change Exists _ | skip)) | (refine isRL ?_; first | refine uMv ?_ | refine uAs ?_ | (refine isBin ?_; first | refine uBb true ?_ | refine uBb false ?_ | refine uP ?_) | (refine isCl ?_; first | refine uC (hI) ?_ | refine uP ?_) | refine uP ?_))
    exact end_r (by rfl) rfl
  | false =>
    rw [ha, decide_eq_false_iff_not] at hd
    repeat (first | refine W_seq ?_ | refine W_region ?_ | ((first | refine RL_nil ?_ | refine W_skip ?_ | refine W_ret ?_); (first | change W _ _ _ _ _ | change EndQ _ _ _ _ _ _ | change Exists _ | skip)) | (refine isRL ?_; first | refine uMv ?_ | refine uAs ?_ | (refine isBin ?_; first | refine uBb true ?_ | refine uBb false ?_ | refine uP ?_) | (refine isCl ?_; first | refine uC (hI) ?_ | refine uP ?_) | refine uP ?_))
    exact end_r (by rfl) rfl
end Go.Proofs.Ytjhkehloipmjfaa
