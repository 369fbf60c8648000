/- Walks: a pattern is laid into a machine, by the document. -/
import Derived.Test.YtjhkehloipmjfaaQJ
import Derived.Test.YtjhkehloipmjfaaWH
import Derived.Test.YtjhkehloipmjfaaVA
import Derived.Test.YtjhkehloipmjfaaMX
import Derived.Test.YtjhkehloipmjfaaQL
import Derived.Shelf.SortM.Plain
import Derived.Shelf.SortM.SortNone
import Derived.Test.YtjhkehloipmjfaaWI
import Derived.Shelf.Slices.In.CompactS
import Derived.Sort.EveryDepth
import Derived.Test.YtjhkehloipmjfaaWM
namespace Go.Proofs.Ytjhkehloipmjfaa
open Go.RowKit
end Go.Proofs.Ytjhkehloipmjfaa
/- Walks: slices.Repeat of one pattern. -/
namespace Go.Proofs.Ytjhkehloipmjfaa
open Go.RowKit
end Go.Proofs.Ytjhkehloipmjfaa
/- Walks: patterns made normal, by the program. -/
namespace Go.Proofs.Ytjhkehloipmjfaa
open Go.RowKit
theorem opens_len (k : Int) (l : List Pt) : (l.flatMap (openP k)).length ≤ (l.map nodesP).sum :=
  Nat.le_trans (length_le_sum nodesP _ fun x _ => nodesP_pos x) (nodes_opens k l)
theorem map_next {α β : Type} {f : α → β} {l : List α} {q : α} {i : Nat} (hq : l[i]? = some q) : (l.take (i + 1)).map f = (l.take i).map f ++ [f q] := by
  rw [List.take_add_one, hq, Option.toList_some, List.map_append, List.map_singleton]
theorem sum_normal {p : Pt} (h : rightP p = true) (hk : p.kind = 3 ∨ p.kind = 4) : ((p.kids.map normal).map nodesP).sum ≤ 2 * sizeN p := by
  rw [List.map_map]
  refine Nat.le_trans (sum_le _ (fun k => 2 * sizeN k) p.kids fun k hk => by have := nodes_normal k (right_kids h k hk); simp only [Function.comp]; omega) ?_
  rw [sizeN_group (by omega)]
  have h7 : ∀ l : List Pt, (l.map fun k => 2 * sizeN k).sum = 2 * (l.map sizeN).sum := fun l => by
    induction l with
    | nil => rfl
    | cons x l ih => simp only [List.map_cons, List.sum_cons, ih]; omega
  rw [h7]; omega
theorem sum_quant {p b : Pt} (h1 : 0 ≤ p.min) (h2 : p.min ≤ 20) (h3 : p.max = -1 ∨ (1 ≤ p.max ∧ p.min ≤ p.max ∧ p.max ≤ 20)) : ((List.replicate p.min.toNat b ++ moreP p b).map nodesP).sum ≤ 21 * (nodesP b + 2) := by
  rw [List.map_append, List.sum_append, List.map_replicate, sum_replicate]
  refine Nat.le_trans (nodes_more (p := p) b h1 h3) (Nat.mul_le_mul_right _ ?_)
  unfold timesP; split <;> omega
end Go.Proofs.Ytjhkehloipmjfaa
/- Walks: patterns made normal, by the document. -/
namespace Go.Proofs.Ytjhkehloipmjfaa
open Go.RowKit
theorem quant_cells (b : Pt) (m : Int) : encP (quantP b m) = [.v (.int .i64 5), .v (.string ⟨#[]⟩), .v (.int .i64 0), .v (.int .i64 0), .v (.string ⟨#[]⟩), .v (.int .i64 0), .v (.int .i64 0), .v (.float .f64 0), .v (.string ⟨#[]⟩), .sl [],
      .v (.int .i64 0), .v (.string ⟨#[]⟩), .v (.int .i64 0), .v (.int .i64 0), .v (.float .f64 0), .v (.string ⟨#[]⟩), .sl [], .v (.int .i64 0), .v (.int .i64 m), .sl [encP b]] := by rw [encP_eq]; rfl
set_option maxRecDepth 100000 in
set_option maxHeartbeats 4000000 in
theorem refNormal_v : ∀ p : Pt, rightP p = true → sizeN p ≤ 5000 → CallsV Try.prog 27 [.dat (encP p)] (.val (.dat (encP (normal p)))) := Pt.ind fun p ih h hs => by
  have hr := right_kids h
  have hkl := kids_lt h
  have ih' : ∀ k ∈ p.kids, CallsV Try.prog 27 [.dat (encP k)] (.val (.dat (encP (normal k)))) := fun k hk => ih k hk (hr k hk) (by have := size_kid h hk; omega)
  have hlm : (p.kids.map encP).length = p.kids.length := List.length_map _
  (refine callsV_of_W (Ty := Ty) ty_ok Try.func27 rfl rfl rfl fun w0 S0 => ?_; simp only [argsF, List.zipIdx_cons, List.zipIdx_nil, List.map_cons, List.map_nil, Nat.zero_add])
  by_cases k1 : p.kind = 1
  · repeat (first | refine W_seq ?_ | refine W_region ?_ | ((first | refine RL_nil ?_ | refine W_skip ?_ | refine W_exit ?_ | refine W_ret ?_); (first | change W _ _ _ _ _ | change EndQ _ _ _ _ _ _ | change Exists _ | skip)) | (refine isRL ?_; first | refine uMv ?_ | refine uAs ?_ | refine uO ?_ | (refine isBin ?_; first | refine uIb ?_ | refine uCat ?_ | refine uBb true ?_ | refine uBb false ?_ | refine uP ?_) | (refine isLd ?_; first | refine uLp ?_ | refine uLb ?_ | refine uL1 ?_ | refine uL2 ?_ | refine uP ?_) | (refine isCl ?_; first | refine uP ?_ | refine uAk ?_ | refine uA ?_ | refine uA0 ?_ | refine uWl ?_) | (refine isFa ?_; first | refine uP ?_) | (refine isBd ?_; first | refine uBd ?_ | refine uP ?_) | (refine isSt ?_; first | refine uSw ?_ | refine uS ?_ | refine uSc ?_) | refine uX ?_ | refine uBs ?_ | refine uP ?_ | refine uBx ?_ | refine uN ?_ | refine uON ?_) | refine W_block ?_ | refine wT fun _ => ?_ | refine wF fun _ => ?_)
    exact end_b rfl rfl rfl rfl rfl (encP_len _) (by rw [normal_elem (.inl k1)])
  by_cases k2 : p.kind = 2
  · repeat (first | refine W_seq ?_ | refine W_region ?_ | ((first | refine RL_nil ?_ | refine W_skip ?_ | refine W_exit ?_ | refine W_ret ?_); (first | change W _ _ _ _ _ | change EndQ _ _ _ _ _ _ | change Exists _ | skip)) | (refine isRL ?_; first | refine uMv ?_ | refine uAs ?_ | refine uO ?_ | (refine isBin ?_; first | refine uIb ?_ | refine uCat ?_ | refine uBb true ?_ | refine uBb false ?_ | refine uP ?_) | (refine isLd ?_; first | refine uLp ?_ | refine uLb ?_ | refine uL1 ?_ | refine uL2 ?_ | refine uP ?_) | (refine isCl ?_; first | refine uP ?_ | refine uAk ?_ | refine uA ?_ | refine uA0 ?_ | refine uWl ?_) | (refine isFa ?_; first | refine uP ?_) | (refine isBd ?_; first | refine uBd ?_ | refine uP ?_) | (refine isSt ?_; first | refine uSw ?_ | refine uS ?_ | refine uSc ?_) | refine uX ?_ | refine uBs ?_ | refine uP ?_ | refine uBx ?_ | refine uN ?_ | refine uON ?_) | refine W_block ?_ | refine wT fun _ => ?_ | refine wF fun _ => ?_)
    exact end_b rfl rfl rfl rfl rfl (encP_len _) (by rw [normal_elem (.inr k2)])
  repeat (first | refine W_seq ?_ | refine W_region ?_ | ((first | refine RL_nil ?_ | refine W_skip ?_ | refine W_exit ?_ | refine W_ret ?_); (first | change W _ _ _ _ _ | change EndQ _ _ _ _ _ _ | change Exists _ | skip)) | (refine isRL ?_; first | refine uMv ?_ | refine uAs ?_ | refine uO ?_ | (refine isBin ?_; first | refine uIb ?_ | refine uCat ?_ | refine uBb true ?_ | refine uBb false ?_ | refine uP ?_) | (refine isLd ?_; first | refine uLp ?_ | refine uLb ?_ | refine uL1 ?_ | refine uL2 ?_ | refine uP ?_) | (refine isCl ?_; first | refine uP ?_ | refine uAk ?_ | refine uA ?_ | refine uA0 ?_ | refine uWl ?_) | (refine isFa ?_; first | refine uP ?_) | (refine isBd ?_; first | refine uBd ?_ | refine uP ?_) | (refine isSt ?_; first | refine uSw ?_ | refine uS ?_ | refine uSc ?_) | refine uX ?_ | refine uBs ?_ | refine uP ?_ | refine uBx ?_ | refine uN ?_ | refine uON ?_) | refine W_block ?_ | refine wT fun _ => ?_ | refine wF fun _ => ?_)
  refine uNil 3 100 53 20 ?_
  refine W_for (α := Nat) (fun i => [(1, .one (.po 1 0)), (2, .one (.po 2 0)), (3, .one (.own 100 (((p.kids.take i).map normal).map encP))), (4, vI i)]) (fun _ => [(1, .box 53 (encP p)), (2, .box 53 zPat), (100, .tok 53 20)]) (fun i => i ≤ p.kids.length) (fun i => p.kids.length - i) 0 (Nat.zero_le _) (by (repeat (first | exact sub_nil _ | refine sub_cons (by rfl) ?_))) (by (repeat (first | exact sub_nil _ | refine sub_cons (by rfl) ?_))) ?_
  intro i hi
  by_cases hlt : i < p.kids.length
  · obtain ⟨q, hq⟩ : ∃ q, p.kids[i]? = some q := ⟨_, List.getElem?_eq_getElem hlt⟩
    have hQ := ih' q (List.mem_of_getElem? hq)
    have hnx' : ((p.kids.take i).map normal).map encP ++ [encP (normal q)] = ((p.kids.take (i + 1)).map normal).map encP := by rw [map_next hq, List.map_append]; rfl
    have hl2 : (((p.kids.take i).map normal).map encP).length ≤ 5000 := by simp; omega
    repeat (first | refine W_seq ?_ | refine W_region ?_ | ((first | refine RL_nil ?_ | refine W_skip ?_ | refine W_exit ?_ | refine W_ret ?_); (first | change W _ _ _ _ _ | change EndQ _ _ _ _ _ _ | change Exists _ | skip)) | (refine isRL ?_; first | refine uMv ?_ | refine uAs ?_ | refine uO ?_ | (refine isBin ?_; first | refine uIb ?_ | refine uCat ?_ | refine uBb true ?_ | refine uBb false ?_ | refine uP ?_) | (refine isLd ?_; first | refine uLp ?_ | refine uLb ?_ | refine uL1 ?_ | refine uL2 ?_ | refine uP ?_) | (refine isCl ?_; first | refine uC (hQ) ?_ | refine uP ?_ | refine uAk ?_ | refine uA ?_ | refine uA0 ?_ | refine uWl ?_) | (refine isFa ?_; first | refine uP ?_) | (refine isBd ?_; first | refine uBd ?_ | refine uP ?_) | (refine isSt ?_; first | refine uSw ?_ | refine uS ?_ | refine uSc ?_) | refine uX ?_ | refine uBs ?_ | refine uP ?_ | refine uBx ?_ | refine uN ?_ | refine uON ?_) | refine W_block ?_ | refine wT fun _ => ?_ | refine wF fun _ => ?_)
    exact ⟨i + 1, by omega, hlt, (by (repeat (first | exact sub_nil _ | refine sub_cons (by rfl) ?_))), (by (repeat (first | exact sub_nil _ | refine sub_cons (by rfl) ?_)))⟩
  · have hil : i = p.kids.length := by omega
    subst hil
    rw [List.take_length]
    by_cases k5 : p.kind = 5
    · obtain ⟨⟨k, hk, hkr⟩, h1, h2, h3⟩ := right_quant h k5
      have hnk := nodes_normal k hkr
      have hsk := size_kid h (k := k) (by rw [hk]; exact List.mem_cons_self)
      have hb := Nat.le_trans (opens_len 3 _) (sum_quant (p := p) (b := normal k) h1 h2 h3)
      have hj := refJoin_v 3 (List.replicate p.min.toNat (normal k) ++ moreP p (normal k)) (by omega)
      have hmore : moreP p (normal k) = if p.max < 0 then [quantP (normal k) (-1)] else if p.min < p.max then [tailP (normal k) (p.max - p.min - 1).toNat] else [] := rfl
      have hfin : normal p = joinP 3 (List.replicate p.min.toNat (normal k) ++ moreP p (normal k)) := normal_quant k5 hk
      generalize hbb : normal k = b at *
      have hb2 : (p.kids.map normal).map encP = [encP b] := by rw [hk, List.map_cons, hbb]; rfl
      rw [hb2]
      repeat (first | refine W_seq ?_ | refine W_region ?_ | ((first | refine RL_nil ?_ | refine W_skip ?_ | refine W_exit ?_ | refine W_ret ?_); (first | change W _ _ _ _ _ | change EndQ _ _ _ _ _ _ | change Exists _ | skip)) | (refine isRL ?_; first | refine uMv ?_ | refine uAs ?_ | refine uO ?_ | (refine isBin ?_; first | refine uIb ?_ | refine uCat ?_ | refine uBb true ?_ | refine uBb false ?_ | refine uP ?_) | (refine isLd ?_; first | refine uLp ?_ | refine uLb ?_ | refine uL1 ?_ | refine uL2 ?_ | refine uP ?_) | (refine isCl ?_; first | refine uP ?_ | refine uAk ?_ | refine uA ?_ | refine uA0 ?_ | refine uWl ?_) | (refine isFa ?_; first | refine uP ?_) | (refine isBd ?_; first | refine uBd ?_ | refine uP ?_) | (refine isSt ?_; first | refine uSw ?_ | refine uS ?_ | refine uSc ?_) | refine uX ?_ | refine uBs ?_ | refine uP ?_ | refine uBx ?_ | refine uN ?_ | refine uON ?_) | refine W_block ?_ | refine wT fun _ => ?_ | refine wF fun _ => ?_)
      refine uNil 3 101 53 20 ?_
      refine W_for (α := Nat) (fun i => [(1, .one (.po 1 0)), (2, .one (.po 2 0)), (3, .one (.own 101 ((List.replicate i b).map encP))), (6, .one (.po 6 0)), (7, vI i)]) (fun _ => [(1, .box 53 (encP p)), (2, .box 53 zPat), (6, .box 53 (encP b)), (101, .tok 53 20)]) (fun i => i ≤ p.min.toNat) (fun i => p.min.toNat - i) 0 (Nat.zero_le _) (by (repeat (first | exact sub_nil _ | refine sub_cons (by rfl) ?_))) (by (repeat (first | exact sub_nil _ | refine sub_cons (by rfl) ?_))) ?_
      intro i hi
      have hl3 : (List.replicate i b).length ≤ 20 := by rw [List.length_replicate]; omega
      by_cases hlt2 : i < p.min.toNat
      · have hlt3 : (i : Int) < p.min := by omega
        have hnx' : (List.replicate i b).map encP ++ [encP b] = (List.replicate (i + 1) b).map encP := by rw [List.replicate_succ', List.map_append]; rfl
        repeat (first | refine W_seq ?_ | refine W_region ?_ | ((first | refine RL_nil ?_ | refine W_skip ?_ | refine W_exit ?_ | refine W_ret ?_); (first | change W _ _ _ _ _ | change EndQ _ _ _ _ _ _ | change Exists _ | skip)) | (refine isRL ?_; first | refine uMv ?_ | refine uAs ?_ | refine uO ?_ | (refine isBin ?_; first | refine uIb ?_ | refine uCat ?_ | refine uBb true ?_ | refine uBb false ?_ | refine uP ?_) | (refine isLd ?_; first | refine uLp ?_ | refine uLb ?_ | refine uL1 ?_ | refine uL2 ?_ | refine uP ?_) | (refine isCl ?_; first | refine uP ?_ | refine uAk ?_ | refine uA ?_ | refine uA0 ?_ | refine uWl ?_) | (refine isFa ?_; first | refine uP ?_) | (refine isBd ?_; first | refine uBd ?_ | refine uP ?_) | (refine isSt ?_; first | refine uSw ?_ | refine uS ?_ | refine uSc ?_) | refine uX ?_ | refine uBs ?_ | refine uP ?_ | refine uBx ?_ | refine uN ?_ | refine uON ?_) | refine W_block ?_ | refine wT fun _ => ?_ | refine wF fun _ => ?_)
        exact ⟨i + 1, by omega, hlt2, (by (repeat (first | exact sub_nil _ | refine sub_cons (by rfl) ?_))), (by (repeat (first | exact sub_nil _ | refine sub_cons (by rfl) ?_)))⟩
      · have hlt3 : ¬ (i : Int) < p.min := by omega
        have him : i = p.min.toNat := by omega
        by_cases hm : p.max < 0
        · have hgt : ¬ p.max > p.min := by omega
          rw [if_pos hm] at hmore
          rw [hmore, ← him] at hj
          have hnx' : (List.replicate i b).map encP ++ [encP (quantP b (-1))] = (List.replicate i b ++ [quantP b (-1)]).map encP := by rw [List.map_append]; rfl
          rw [quant_cells] at hnx'
          repeat (first | refine W_seq ?_ | refine W_region ?_ | ((first | refine RL_nil ?_ | refine W_skip ?_ | refine W_exit ?_ | refine W_ret ?_); (first | change W _ _ _ _ _ | change EndQ _ _ _ _ _ _ | change Exists _ | skip)) | (refine isRL ?_; first | refine uMv ?_ | refine uAs ?_ | refine uO ?_ | (refine isBin ?_; first | refine uIb ?_ | refine uCat ?_ | refine uBb true ?_ | refine uBb false ?_ | refine uP ?_) | (refine isLd ?_; first | refine uLp ?_ | refine uLb ?_ | refine uL1 ?_ | refine uL2 ?_ | refine uP ?_) | (refine isCl ?_; first | refine uC (hj) ?_ | refine uP ?_ | refine uAk ?_ | refine uA ?_ | refine uA0 ?_ | refine uWl ?_) | (refine isFa ?_; first | refine uP ?_) | (refine isBd ?_; first | refine uBd ?_ | refine uP ?_) | (refine isSt ?_; first | refine uSw ?_ | refine uS ?_ | refine uSc ?_) | refine uX ?_ | refine uBs ?_ | refine uP ?_ | refine uBx ?_ | refine uN ?_ | refine uON ?_) | refine W_block ?_ | refine wT fun _ => ?_ | refine wF fun _ => ?_)
          exact end_b rfl rfl rfl rfl rfl (encP_len _) (by rw [hfin, hmore, him])
        · rw [if_neg hm] at hmore
          by_cases hgt : p.min < p.max
          · rw [if_pos hgt] at hmore
            rw [hmore, ← him] at hj
            repeat (first | refine W_seq ?_ | refine W_region ?_ | ((first | refine RL_nil ?_ | refine W_skip ?_ | refine W_exit ?_ | refine W_ret ?_); (first | change W _ _ _ _ _ | change EndQ _ _ _ _ _ _ | change Exists _ | skip)) | (refine isRL ?_; first | refine uMv ?_ | refine uAs ?_ | refine uO ?_ | (refine isBin ?_; first | refine uIb ?_ | refine uCat ?_ | refine uBb true ?_ | refine uBb false ?_ | refine uP ?_) | (refine isLd ?_; first | refine uLp ?_ | refine uLb ?_ | refine uL1 ?_ | refine uL2 ?_ | refine uP ?_) | (refine isCl ?_; first | refine uP ?_ | refine uAk ?_ | refine uA ?_ | refine uA0 ?_ | refine uWl ?_) | (refine isFa ?_; first | refine uP ?_) | (refine isBd ?_; first | refine uBd ?_ | refine uP ?_) | (refine isSt ?_; first | refine uSw ?_ | refine uS ?_ | refine uSc ?_) | refine uX ?_ | refine uBs ?_ | refine uP ?_ | refine uBx ?_ | refine uN ?_ | refine uON ?_) | refine W_block ?_ | refine wT fun _ => ?_ | refine wF fun _ => ?_)
            refine W_for (α := Nat) (fun j => [(1, .one (.po 1 0)), (2, .one (.po 2 0)), (3, .one (.own 101 ((List.replicate i b).map encP))), (6, .one (.po 6 0)), (8, .one (.po 8 0)), (9, vI ((j + 1 : Nat) : Int))]) (fun j => [(1, .box 53 (encP p)), (2, .box 53 zPat), (6, .box 53 (encP b)), (101, .tok 53 20), (8, .box 53 (encP (tailP b j)))]) (fun j => (j : Int) + 1 ≤ p.max - p.min) (fun j => (p.max - p.min).toNat - j) 0 (by omega) (by (repeat (first | exact sub_nil _ | refine sub_cons (by rfl) ?_))) (by exact sub_cons (by rfl) (sub_cons (by rfl) (sub_cons (by rfl) (sub_cons (by rfl) (sub_cons (by rw [tailP, quant_cells]; rfl) (sub_nil _)))))) ?_
            intro j hj2
            by_cases hlt4 : (j : Int) + 1 < p.max - p.min
            · have hnt := nodes_tail b j
              have hbj : (([b, tailP b j] : List Pt).flatMap (openP 3)).length ≤ 1000000 := by
                refine Nat.le_trans (opens_len 3 _) ?_
                have : (j + 1) * (nodesP b + 2) ≤ 20 * 20002 := Nat.mul_le_mul (by omega) (by omega)
                simp only [List.map_cons, List.map_nil, List.sum_cons, List.sum_nil]
                omega
              have hJ := refJoin_v 3 [b, tailP b j] hbj
              repeat (first | refine W_seq ?_ | refine W_region ?_ | ((first | refine RL_nil ?_ | refine W_skip ?_ | refine W_exit ?_ | refine W_ret ?_); (first | change W _ _ _ _ _ | change EndQ _ _ _ _ _ _ | change Exists _ | skip)) | (refine isRL ?_; first | refine uMv ?_ | refine uAs ?_ | refine uO ?_ | (refine isBin ?_; first | refine uIb ?_ | refine uCat ?_ | refine uBb true ?_ | refine uBb false ?_ | refine uP ?_) | (refine isLd ?_; first | refine uLp ?_ | refine uLb ?_ | refine uL1 ?_ | refine uL2 ?_ | refine uP ?_) | (refine isCl ?_; first | refine uC (hJ) ?_ | refine uP ?_ | refine uAk ?_ | refine uA ?_ | refine uA0 ?_ | refine uWl ?_) | (refine isFa ?_; first | refine uP ?_) | (refine isBd ?_; first | refine uBd ?_ | refine uP ?_) | (refine isSt ?_; first | refine uSw ?_ | refine uS ?_ | refine uSc ?_) | refine uX ?_ | refine uBs ?_ | refine uP ?_ | refine uBx ?_ | refine uN ?_ | refine uON ?_) | refine W_block ?_ | refine wT fun _ => ?_ | refine wF fun _ => ?_)
              exact ⟨j + 1, by omega, by omega, (by (repeat (first | exact sub_nil _ | refine sub_cons (by rfl) ?_))), (by exact sub_cons (by rfl) (sub_cons (by rfl) (sub_cons (by rfl) (sub_cons (by rfl) (sub_cons (by rw [tailP, quant_cells]; rfl) (sub_nil _))))))⟩
            · have hje : j = (p.max - p.min - 1).toNat := by omega
              have hnx' : (List.replicate i b).map encP ++ [encP (tailP b j)] = (List.replicate i b ++ [tailP b (p.max - p.min - 1).toNat]).map encP := by rw [← hje, List.map_append]; rfl
              repeat (first | refine W_seq ?_ | refine W_region ?_ | ((first | refine RL_nil ?_ | refine W_skip ?_ | refine W_exit ?_ | refine W_ret ?_); (first | change W _ _ _ _ _ | change EndQ _ _ _ _ _ _ | change Exists _ | skip)) | (refine isRL ?_; first | refine uMv ?_ | refine uAs ?_ | refine uO ?_ | (refine isBin ?_; first | refine uIb ?_ | refine uCat ?_ | refine uBb true ?_ | refine uBb false ?_ | refine uP ?_) | (refine isLd ?_; first | refine uLp ?_ | refine uLb ?_ | refine uL1 ?_ | refine uL2 ?_ | refine uP ?_) | (refine isCl ?_; first | refine uC (hj) ?_ | refine uP ?_ | refine uAk ?_ | refine uA ?_ | refine uA0 ?_ | refine uWl ?_) | (refine isFa ?_; first | refine uP ?_) | (refine isBd ?_; first | refine uBd ?_ | refine uP ?_) | (refine isSt ?_; first | refine uSw ?_ | refine uS ?_ | refine uSc ?_) | refine uX ?_ | refine uBs ?_ | refine uP ?_ | refine uBx ?_ | refine uN ?_ | refine uON ?_) | refine W_block ?_ | refine wT fun _ => ?_ | refine wF fun _ => ?_)
              exact end_b rfl rfl rfl rfl rfl (encP_len _) (by rw [hfin, hmore, him])
          · rw [if_neg hgt] at hmore
            rw [hmore, List.append_nil, ← him] at hj
            repeat (first | refine W_seq ?_ | refine W_region ?_ | ((first | refine RL_nil ?_ | refine W_skip ?_ | refine W_exit ?_ | refine W_ret ?_); (first | change W _ _ _ _ _ | change EndQ _ _ _ _ _ _ | change Exists _ | skip)) | (refine isRL ?_; first | refine uMv ?_ | refine uAs ?_ | refine uO ?_ | (refine isBin ?_; first | refine uIb ?_ | refine uCat ?_ | refine uBb true ?_ | refine uBb false ?_ | refine uP ?_) | (refine isLd ?_; first | refine uLp ?_ | refine uLb ?_ | refine uL1 ?_ | refine uL2 ?_ | refine uP ?_) | (refine isCl ?_; first | refine uC (hj) ?_ | refine uP ?_ | refine uAk ?_ | refine uA ?_ | refine uA0 ?_ | refine uWl ?_) | (refine isFa ?_; first | refine uP ?_) | (refine isBd ?_; first | refine uBd ?_ | refine uP ?_) | (refine isSt ?_; first | refine uSw ?_ | refine uS ?_ | refine uSc ?_) | refine uX ?_ | refine uBs ?_ | refine uP ?_ | refine uBx ?_ | refine uN ?_ | refine uON ?_) | refine W_block ?_ | refine wT fun _ => ?_ | refine wF fun _ => ?_)
            exact end_b rfl rfl rfl rfl rfl (encP_len _) (by rw [hfin, hmore, List.append_nil, him])
    · have k34 : p.kind = 3 ∨ p.kind = 4 := by have := right_kind h; omega
      have hb := Nat.le_trans (opens_len p.kind (p.kids.map normal)) (sum_normal h k34)
      have hj := refJoin_v p.kind (p.kids.map normal) (by omega)
      repeat (first | refine W_seq ?_ | refine W_region ?_ | ((first | refine RL_nil ?_ | refine W_skip ?_ | refine W_exit ?_ | refine W_ret ?_); (first | change W _ _ _ _ _ | change EndQ _ _ _ _ _ _ | change Exists _ | skip)) | (refine isRL ?_; first | refine uMv ?_ | refine uAs ?_ | refine uO ?_ | (refine isBin ?_; first | refine uIb ?_ | refine uCat ?_ | refine uBb true ?_ | refine uBb false ?_ | refine uP ?_) | (refine isLd ?_; first | refine uLp ?_ | refine uLb ?_ | refine uL1 ?_ | refine uL2 ?_ | refine uP ?_) | (refine isCl ?_; first | refine uC (hj) ?_ | refine uP ?_ | refine uAk ?_ | refine uA ?_ | refine uA0 ?_ | refine uWl ?_) | (refine isFa ?_; first | refine uP ?_) | (refine isBd ?_; first | refine uBd ?_ | refine uP ?_) | (refine isSt ?_; first | refine uSw ?_ | refine uS ?_ | refine uSc ?_) | refine uX ?_ | refine uBs ?_ | refine uP ?_ | refine uBx ?_ | refine uN ?_ | refine uON ?_) | refine W_block ?_ | refine wT fun _ => ?_ | refine wF fun _ => ?_)
      exact end_b rfl rfl rfl rfl rfl (encP_len _) (by rw [normal_group (by omega)])
end Go.Proofs.Ytjhkehloipmjfaa
/- Walks: a pattern's machine is built, by the document; a machine as the document's. -/
namespace Go.Proofs.Ytjhkehloipmjfaa
open Go.RowKit
end Go.Proofs.Ytjhkehloipmjfaa
/- Walks: two machines that are the same. -/
namespace Go.Proofs.Ytjhkehloipmjfaa
open Go.RowKit
section
variable {X : Ctx} {fr : Fr} {σ : Obs} {o : Oper} {ops : Array Oper} {rest : List Oper} {d : Nat} {xx yy : Operand} {γ : Nat → Nat} {T : Nat → Value} {S : Nat → Nat → Prop} {w : World} {a : Act}
variable {τ0 σB : Obs} {K : List Cr} {C0 : Cons} {QD : Fr → Obs → Prop} {j : Nat}
end
section
variable {w0 : W0} {S0 : Nat → Nat → Prop} {nt : Nat} {fr : Fr} {σ τ0 σB : Obs} {o : Oper} {ops : Array Oper} {rest : List Oper} {d : Nat} {xx yy : Operand} {QD : Fr → Obs → Prop} {K : List Cr} {C0 : Cons} {j : Nat}
end
end Go.Proofs.Ytjhkehloipmjfaa
/- The library's contracts on slices.Sort and slices.Compact of texts at this program: each is one application of a contract over any program; the layings in plain words. Printed by wip/tools/lays.sh. -/
namespace Go.Proofs.Ytjhkehloipmjfaa
open Go.RowKit Go.Sort Go.Shelf
def Try.sort80_ren : Go.Shelf.Ren := ⟨fun | 6 => 80 | 8 => 107 | 9 => 106 | 19 => 129 | 20 => 130 | 21 => 120 | 22 => 121 | 23 => 122 | 24 => 123 | 25 => 124 | 26 => 125 | 27 => 126 | 28 => 127 | 29 => 128 | 36 => 145 | 31 => 146 | 32 => 147 | 37 => 148 | 38 => 149 | 39 => 150 | 41 => 161 | n => n, fun | 27 => 41 | 29 => 9 | 3 => 3 | 32 => 162 | 26 => 41 | 0 => 0 | 44 => 185 | 46 => 95 | 4 => 4 | 36 => 178 | 35 => 177 | 41 => 173 | 5 => 5 | 9 => 9 | 53 => 200 | 57 => 204 | 63 => 208 | 64 => 70 | n => n, fun | n => n⟩
theorem Try.sort80 : Go.Proofs.SlLaysM.n6 Try.prog Try.sort80_ren := {
  mixed := by kernel_rfl
  f6 := ⟨Try.f80.name, by decide, Try.func80.trans (congrArg some (by kernel_rfl))⟩
  f8 := Try.func107.trans (congrArg some (by kernel_rfl))
  f9 := ⟨Try.f106.name, by decide, Try.func106.trans (congrArg some (by kernel_rfl))⟩
  f19 := Try.func129.trans (congrArg some (by kernel_rfl))
  f20 := Try.func130.trans (congrArg some (by kernel_rfl))
  f21 := ⟨Try.f120.name, by decide, Try.func120.trans (congrArg some (by kernel_rfl))⟩
  f22 := ⟨Try.f121.name, by decide, Try.func121.trans (congrArg some (by kernel_rfl))⟩
  f23 := ⟨Try.f122.name, by decide, Try.func122.trans (congrArg some (by kernel_rfl))⟩
  f24 := ⟨Try.f123.name, by decide, Try.func123.trans (congrArg some (by kernel_rfl))⟩
  f25 := ⟨Try.f124.name, by decide, Try.func124.trans (congrArg some (by kernel_rfl))⟩
  f26 := ⟨Try.f125.name, by decide, Try.func125.trans (congrArg some (by kernel_rfl))⟩
  f27 := ⟨Try.f126.name, by decide, Try.func126.trans (congrArg some (by kernel_rfl))⟩
  f28 := ⟨Try.f127.name, by decide, Try.func127.trans (congrArg some (by kernel_rfl))⟩
  f29 := ⟨Try.f128.name, by decide, Try.func128.trans (congrArg some (by kernel_rfl))⟩
  f31 := Try.func146.trans (congrArg some (by kernel_rfl))
  f32 := Try.func147.trans (congrArg some (by kernel_rfl))
  f36 := ⟨Try.f145.name, by decide, Try.func145.trans (congrArg some (by kernel_rfl))⟩
  f37 := ⟨Try.f148.name, by decide, Try.func148.trans (congrArg some (by kernel_rfl))⟩
  f38 := ⟨Try.f149.name, by decide, Try.func149.trans (congrArg some (by kernel_rfl))⟩
  f39 := ⟨Try.f150.name, by decide, Try.func150.trans (congrArg some (by kernel_rfl))⟩
  f41 := ⟨Try.f161.name, by decide, Try.func161.trans (congrArg some (by kernel_rfl))⟩
  t0 := Try.underlying0
  a0 := Try.isAgg0
  z0 := Try.sizeOf0
  v0 := Try.zeroValue0
  t3 := Try.underlying3
  a3 := Try.isAgg3
  z3 := Try.sizeOf3
  v3 := Try.zeroValue3
  t4 := Try.underlying4
  a4 := Try.isAgg4
  z4 := Try.sizeOf4
  v4 := Try.zeroValue4
  t5 := Try.underlying5
  a5 := Try.isAgg5
  z5 := Try.sizeOf5
  v5 := Try.zeroValue5
  t9 := Try.underlying9
  a9 := Try.isAgg9
  z9 := Try.sizeOf9
  v9 := Try.zeroValue9
  t26 := Try.underlying41
  a26 := Try.isAgg41
  z26 := Try.sizeOf41
  v26 := Try.zeroValue41
  t27 := Try.underlying41
  a27 := Try.isAgg41
  z27 := Try.sizeOf41
  v27 := Try.zeroValue41
  t29 := Try.underlying9
  a29 := Try.isAgg9
  z29 := Try.sizeOf9
  v29 := Try.zeroValue9
  t32 := Try.underlying162
  a32 := Try.isAgg162
  z32 := Try.sizeOf162
  v32 := Try.zeroValue162
  t35 := Try.underlying177
  a35 := Try.isAgg177
  z35 := Try.sizeOf177
  v35 := Try.zeroValue177
  t36 := Try.underlying178
  a36 := Try.isAgg178
  z36 := Try.sizeOf178
  v36 := Try.zeroValue178
  t41 := Try.underlying173
  a41 := Try.isAgg173
  z41 := Try.sizeOf173
  v41 := Try.zeroValue173
  t44 := Try.underlying185
  a44 := Try.isAgg185
  z44 := Try.sizeOf185
  v44 := Try.zeroValue185
  t46 := Try.underlying95
  a46 := Try.isAgg95
  z46 := Try.sizeOf95
  v46 := Try.zeroValue95
  t53 := Try.underlying200
  a53 := Try.isAgg200
  z53 := Try.sizeOf200
  v53 := Try.zeroValue200
  t57 := Try.underlying204
  a57 := Try.isAgg204
  z57 := Try.sizeOf204
  v57 := Try.zeroValue204
  t63 := Try.underlying208
  a63 := Try.isAgg208
  z63 := Try.sizeOf208
  v63 := Try.zeroValue208
  t64 := Try.underlying70
  a64 := Try.isAgg70
  z64 := Try.sizeOf70
  v64 := Try.zeroValue70 }
theorem sorts_v : SortsG Try.prog 80 := ⟨enters_of Try.func80 (by kernel_rfl) rfl, fun blk off cap ss W hH hblk hsz => AnyM.slices_Sort_string Try.sort80 blk off cap ss W hH hblk hsz, fun p cap W => AnyM.slices_Sort_string_none Try.sort80 p cap W⟩
end Go.Proofs.Ytjhkehloipmjfaa
namespace Go.Proofs.Ytjhkehloipmjfaa
open Go.RowKit Go.Sort Go.Shelf
def Try.compact50_ren : Go.Shelf.Ren := ⟨fun | 194 => 50 | n => n, fun | 31 => 41 | 9 => 9 | 3 => 3 | 4 => 4 | 0 => 0 | n => n, fun | n => n⟩
theorem Try.compact50 : Go.Proofs.Lays.n194 Try.prog Try.compact50_ren := {
  mixed := by kernel_rfl
  f194 := Try.func50.trans (congrArg some (by kernel_rfl))
  t0 := Try.underlying0
  a0 := Try.isAgg0
  z0 := Try.sizeOf0
  v0 := Try.zeroValue0
  t3 := Try.underlying3
  a3 := Try.isAgg3
  z3 := Try.sizeOf3
  v3 := Try.zeroValue3
  t4 := Try.underlying4
  a4 := Try.isAgg4
  z4 := Try.sizeOf4
  v4 := Try.zeroValue4
  t9 := Try.underlying9
  a9 := Try.isAgg9
  z9 := Try.sizeOf9
  v9 := Try.zeroValue9
  t31 := Try.underlying41
  a31 := Try.isAgg41
  z31 := Try.sizeOf41
  v31 := Try.zeroValue41 }
theorem comps_v : CompG Try.prog 50 := ⟨enters_of Try.func50 (by kernel_rfl) rfl, fun blk off cap zs w h1 h2 h3 => calls_of_every_depth fun D => AnyS.slices_Compact_string_in Try.compact50 D blk off cap zs w h1 h2 h3, fun p cap w => calls_of_every_depth fun D => AnyS.slices_Compact_string_empty_in Try.compact50 D p cap w⟩
end Go.Proofs.Ytjhkehloipmjfaa
