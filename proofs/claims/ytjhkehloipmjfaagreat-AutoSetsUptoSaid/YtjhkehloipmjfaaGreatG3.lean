/- Walks: slices.Repeat of one pattern. -/
import Derived.Test.YtjhkehloipmjfaaGreatMA
import Derived.Test.YtjhkehloipmjfaaGreatVA
import Derived.Test.YtjhkehloipmjfaaGreatMY
import Derived.Test.YtjhkehloipmjfaaGreatQD
import Derived.Test.YtjhkehloipmjfaaGreatQL
import Derived.Shelf.SortM.Plain
import Derived.Shelf.SortM.SortNone
import Derived.Test.YtjhkehloipmjfaaGreatWI
import Derived.Shelf.Slices.In.CompactS
import Derived.Sort.EveryDepth
import Derived.Test.YtjhkehloipmjfaaGreatMD
namespace Go.Proofs.YtjhkehloipmjfaaGreat
open Go.RowKit
theorem wrap_u64 {z : Int} (h1 : 0 ≤ z) (h2 : z ≤ 18446744073709551615) : IntKind.u64.wrap z = z := by
  rw [IntKind.wrap_u64]; omega
end Go.Proofs.YtjhkehloipmjfaaGreat
/- Walks: patterns made normal, by the program. -/
namespace Go.Proofs.YtjhkehloipmjfaaGreat
open Go.RowKit
theorem opens_len (k : Int) (l : List Pt) : (l.flatMap (openP k)).length ≤ (l.map nodesP).sum :=
  Nat.le_trans (length_le_sum nodesP _ fun x _ => nodesP_pos x) (nodes_opens k l)
theorem map_next {α β : Type} {f : α → β} {l : List α} {q : α} {i : Nat} (hq : l[i]? = some q) : (l.take (i + 1)).map f = (l.take i).map f ++ [f q] := by
  rw [List.take_add_one, hq, Option.toList_some, List.map_append, List.map_singleton]
theorem sum_normal {p : Pt} (h : rightP p = true) (hk : p.kind = 3 ∨ p.kind = 4) : ((p.kids.map normal).map nodesP).sum ≤ 2 * sizeN p := by
  rw [List.map_map]
  refine Nat.le_trans (sum_le _ (fun k => 2 * sizeN k) p.kids fun k hk => by have := nodes_normal k (right_kids h k hk); simp only [Function.comp]; omega) ?_
  rw [sizeN_group (by omega)]
  have h7 : ∀ l : List Pt, (l.map fun k => 2 * sizeN k).sum = 2 * (l.map sizeN).sum := fun l => by
    induction l with
    | nil => rfl
    | cons x l ih => simp only [List.map_cons, List.sum_cons, ih]; omega
  rw [h7]; omega
theorem sum_quant {p b : Pt} (h1 : 0 ≤ p.min) (h2 : p.min ≤ 20) (h3 : p.max = -1 ∨ (1 ≤ p.max ∧ p.min ≤ p.max ∧ p.max ≤ 20)) : ((List.replicate p.min.toNat b ++ moreP p b).map nodesP).sum ≤ 21 * (nodesP b + 2) := by
  rw [List.map_append, List.sum_append, List.map_replicate, sum_replicate]
  refine Nat.le_trans (nodes_more (p := p) b h1 h3) (Nat.mul_le_mul_right _ ?_)
  unfold timesP; split <;> omega
end Go.Proofs.YtjhkehloipmjfaaGreat
/- Walks: patterns made normal, by the document. -/
namespace Go.Proofs.YtjhkehloipmjfaaGreat
open Go.RowKit
theorem quant_cells (b : Pt) (m : Int) : encP (quantP b m) = [.v (.int .i64 5), .v (.string ⟨#[]⟩), .v (.int .i64 0), .v (.int .i64 0), .v (.string ⟨#[]⟩), .v (.int .i64 0), .v (.int .i64 0), .v (.float .f64 0), .v (.string ⟨#[]⟩), .sl [],
      .v (.int .i64 0), .v (.string ⟨#[]⟩), .v (.int .i64 0), .v (.int .i64 0), .v (.float .f64 0), .v (.string ⟨#[]⟩), .sl [], .v (.int .i64 0), .v (.int .i64 m), .sl [encP b]] := by rw [encP_eq]; rfl
set_option maxRecDepth 100000 in
set_option maxHeartbeats 4000000 in
theorem refNormal_v : ∀ p : Pt, rightP p = true → sizeN p ≤ 5000 → CallsV Tryz.prog 9 [.dat (encP p)] (.val (.dat (encP (normal p)))) := Pt.ind fun p ih h hs => by
  have hr := right_kids h
  have hkl := kids_lt h
  have ih' : ∀ k ∈ p.kids, CallsV Tryz.prog 9 [.dat (encP k)] (.val (.dat (encP (normal k)))) := fun k hk => ih k hk (hr k hk) (by have := size_kid h hk; omega)
  have hlm : (p.kids.map encP).length = p.kids.length := List.length_map _
  (refine callsV_of_W (Ty := Ty) ty_ok Tryz.func9 rfl rfl rfl fun w0 S0 => ?_; simp only [argsF, List.zipIdx_cons, List.zipIdx_nil, List.map_cons, List.map_nil, Nat.zero_add])
  by_cases k1 : p.kind = 1
  · repeat (first | refine W_seq ?_ | refine W_region ?_ | ((first | refine RL_nil ?_ | refine W_ret ?_); (first | change W _ _ _ _ _ | skip)) | (refine isRL ?_; first | refine uMv ?_ | refine uO ?_ | (refine isBin ?_; first | refine uBb true ?_ ) | (refine isLd ?_; first | refine uLb ?_ | refine uL1 ?_ ) | (refine isFa ?_; first | refine uP ?_) | (refine isSt ?_; first | refine uSw ?_ ) | refine uP ?_ | refine uBx ?_ | refine uN ?_ ) | refine wT fun _ => ?_ )
    exact end_b rfl rfl rfl rfl rfl (encP_len _) (by rw [normal_elem (.inl k1)])
  by_cases k2 : p.kind = 2
  · repeat (first | refine W_seq ?_ | refine W_region ?_ | ((first | refine RL_nil ?_ | refine W_ret ?_); (first | change W _ _ _ _ _ | skip)) | (refine isRL ?_; first | refine uMv ?_ | (refine isBin ?_; first | refine uBb true ?_ | refine uBb false ?_ ) | (refine isLd ?_; first | refine uLb ?_ | refine uL1 ?_ ) | (refine isFa ?_; first | refine uP ?_) | (refine isSt ?_; first | refine uSw ?_ ) | refine uP ?_ | refine uBx ?_ | refine uN ?_ ) | refine wT fun _ => ?_ )
    exact end_b rfl rfl rfl rfl rfl (encP_len _) (by rw [normal_elem (.inr k2)])
  repeat (first | refine W_seq ?_ | refine W_region ?_ | ((first | refine RL_nil ?_ | refine W_skip ?_ ); (first | change W _ _ _ _ _ )) | (refine isRL ?_; first | refine uMv ?_ | refine uAs ?_ | (refine isBin ?_; first | refine uBb false ?_ ) | (refine isLd ?_; first | refine uL1 ?_ ) | (refine isFa ?_; first | refine uP ?_) | refine uP ?_ | refine uBx ?_ | refine uN ?_ ) | refine W_block ?_ | refine wF fun _ => ?_)
  refine uNil 3 100 34 20 ?_
  refine W_for (α := Nat) (fun i => [(1, .one (.po 1 0)), (2, .one (.po 2 0)), (3, .one (.own 100 (((p.kids.take i).map normal).map encP))), (4, vI i)]) (fun _ => [(1, .box 34 (encP p)), (2, .box 34 zPat), (100, .tok 34 20)]) (fun i => i ≤ p.kids.length) (fun i => p.kids.length - i) 0 (Nat.zero_le _) (by (repeat (first | exact sub_nil _ | refine sub_cons (by rfl) ?_))) (by (repeat (first | exact sub_nil _ | refine sub_cons (by rfl) ?_))) ?_
  intro i hi
  by_cases hlt : i < p.kids.length
  · obtain ⟨q, hq⟩ : ∃ q, p.kids[i]? = some q := ⟨_, List.getElem?_eq_getElem hlt⟩
    have hQ := ih' q (List.mem_of_getElem? hq)
    have hnx' : ((p.kids.take i).map normal).map encP ++ [encP (normal q)] = ((p.kids.take (i + 1)).map normal).map encP := by rw [map_next hq, List.map_append]; rfl
    have hl2 : (((p.kids.take i).map normal).map encP).length ≤ 5000 := by simp; omega
    repeat (first | refine W_seq ?_ | refine W_region ?_ | ((first | refine RL_nil ?_ | refine W_skip ?_ ); (first | change W _ _ _ _ _ | change Exists _ )) | (refine isRL ?_; first | refine uMv ?_ | refine uAs ?_ | (refine isBin ?_; first | refine uIb ?_ | refine uBb true ?_ ) | (refine isLd ?_; first | refine uLp ?_ | refine uLb ?_ | refine uL1 ?_ ) | (refine isCl ?_; first | refine uC (hQ) ?_ | refine uP ?_ | refine uAk ?_ ) | (refine isFa ?_; first | refine uP ?_) | (refine isSt ?_; first | refine uSw ?_ ) | refine uX ?_ | refine uBs ?_ | refine uN ?_ ) | refine W_block ?_ | refine wT fun _ => ?_ )
    exact ⟨i + 1, by omega, hlt, (by (repeat (first | exact sub_nil _ | refine sub_cons (by rfl) ?_))), (by (repeat (first | exact sub_nil _ | refine sub_cons (by rfl) ?_)))⟩
  · have hil : i = p.kids.length := by omega
    subst hil
    rw [List.take_length]
    by_cases k5 : p.kind = 5
    · obtain ⟨⟨k, hk, hkr⟩, h1, h2, h3⟩ := right_quant h k5
      have hnk := nodes_normal k hkr
      have hsk := size_kid h (k := k) (by rw [hk]; exact List.mem_cons_self)
      have hb := Nat.le_trans (opens_len 3 _) (sum_quant (p := p) (b := normal k) h1 h2 h3)
      have hj := refJoin_v 3 (List.replicate p.min.toNat (normal k) ++ moreP p (normal k)) (by omega)
      have hmore : moreP p (normal k) = if p.max < 0 then [quantP (normal k) (-1)] else if p.min < p.max then [tailP (normal k) (p.max - p.min - 1).toNat] else [] := rfl
      have hfin : normal p = joinP 3 (List.replicate p.min.toNat (normal k) ++ moreP p (normal k)) := normal_quant k5 hk
      generalize hbb : normal k = b at *
      have hb2 : (p.kids.map normal).map encP = [encP b] := by rw [hk, List.map_cons, hbb]; rfl
      rw [hb2]
      repeat (first | refine W_seq ?_ | refine W_region ?_ | ((first | refine RL_nil ?_ | refine W_skip ?_ | refine W_exit ?_ ); (first | change W _ _ _ _ _ )) | (refine isRL ?_; first | refine uMv ?_ | refine uAs ?_ | (refine isBin ?_; first | refine uBb false ?_ ) | (refine isLd ?_; first | refine uLp ?_ | refine uL1 ?_ ) | (refine isCl ?_; first | refine uP ?_ ) | (refine isFa ?_; first | refine uP ?_) | (refine isSt ?_; first | refine uSw ?_ ) | refine uX ?_ | refine uN ?_ ) | refine W_block ?_ | refine wF fun _ => ?_)
      refine uNil 3 101 34 20 ?_
      refine W_for (α := Nat) (fun i => [(1, .one (.po 1 0)), (2, .one (.po 2 0)), (3, .one (.own 101 ((List.replicate i b).map encP))), (6, .one (.po 6 0)), (7, vI i)]) (fun _ => [(1, .box 34 (encP p)), (2, .box 34 zPat), (6, .box 34 (encP b)), (101, .tok 34 20)]) (fun i => i ≤ p.min.toNat) (fun i => p.min.toNat - i) 0 (Nat.zero_le _) (by (repeat (first | exact sub_nil _ | refine sub_cons (by rfl) ?_))) (by (repeat (first | exact sub_nil _ | refine sub_cons (by rfl) ?_))) ?_
      intro i hi
      have hl3 : (List.replicate i b).length ≤ 20 := by rw [List.length_replicate]; omega
      by_cases hlt2 : i < p.min.toNat
      · have hlt3 : (i : Int) < p.min := by omega
        have hnx' : (List.replicate i b).map encP ++ [encP b] = (List.replicate (i + 1) b).map encP := by rw [List.replicate_succ', List.map_append]; rfl
        repeat (first | refine W_seq ?_ | refine W_region ?_ | ((first | refine RL_nil ?_ | refine W_skip ?_ ); (first | change W _ _ _ _ _ | change Exists _ )) | (refine isRL ?_; first | refine uMv ?_ | refine uAs ?_ | (refine isBin ?_; first | refine uIb ?_ | refine uBb true ?_ ) | (refine isLd ?_; first | refine uLb ?_ | refine uL1 ?_ ) | (refine isCl ?_; first | refine uAk ?_ ) | (refine isFa ?_; first | refine uP ?_) | refine uBs ?_ ) | refine W_block ?_ | refine wT fun _ => ?_ )
        exact ⟨i + 1, by omega, hlt2, (by (repeat (first | exact sub_nil _ | refine sub_cons (by rfl) ?_))), (by (repeat (first | exact sub_nil _ | refine sub_cons (by rfl) ?_)))⟩
      · have hlt3 : ¬ (i : Int) < p.min := by omega
        have him : i = p.min.toNat := by omega
        by_cases hm : p.max < 0
        · have hgt : ¬ p.max > p.min := by omega
          rw [if_pos hm] at hmore
          rw [hmore, ← him] at hj
          have hnx' : (List.replicate i b).map encP ++ [encP (quantP b (-1))] = (List.replicate i b ++ [quantP b (-1)]).map encP := by rw [List.map_append]; rfl
          rw [quant_cells] at hnx'
          repeat (first | refine W_seq ?_ | refine W_region ?_ | ((first | refine RL_nil ?_ | refine W_skip ?_ | refine W_exit ?_ | refine W_ret ?_); (first | change W _ _ _ _ _ | change EndQ _ _ _ _ _ _ )) | (refine isRL ?_; first | refine uMv ?_ | refine uAs ?_ | (refine isBin ?_; first | refine uBb true ?_ | refine uBb false ?_ ) | (refine isLd ?_; first | refine uLb ?_ | refine uL1 ?_ ) | (refine isCl ?_; first | refine uC (hj) ?_ | refine uAk ?_ ) | (refine isFa ?_; first | refine uP ?_) | (refine isBd ?_; first | refine uBd ?_ ) | (refine isSt ?_; first | refine uSw ?_ ) | refine uBs ?_ ) | refine wT fun _ => ?_ | refine wF fun _ => ?_)
          exact end_b rfl rfl rfl rfl rfl (encP_len _) (by rw [hfin, hmore, him])
        · rw [if_neg hm] at hmore
          by_cases hgt : p.min < p.max
          · rw [if_pos hgt] at hmore
            rw [hmore, ← him] at hj
            repeat (first | refine W_seq ?_ | refine W_region ?_ | ((first | refine RL_nil ?_ | refine W_skip ?_ | refine W_exit ?_ ); (first | change W _ _ _ _ _ )) | (refine isRL ?_; first | refine uMv ?_ | refine uAs ?_ | (refine isBin ?_; first | refine uBb true ?_ | refine uBb false ?_ ) | (refine isLd ?_; first | refine uLb ?_ | refine uL1 ?_ ) | (refine isFa ?_; first | refine uP ?_) | (refine isBd ?_; first | refine uBd ?_ ) | (refine isSt ?_; first | refine uSw ?_ ) | refine uBs ?_ | refine uN ?_ ) | refine W_block ?_ | refine wT fun _ => ?_ | refine wF fun _ => ?_)
            refine W_for (α := Nat) (fun j => [(1, .one (.po 1 0)), (2, .one (.po 2 0)), (3, .one (.own 101 ((List.replicate i b).map encP))), (6, .one (.po 6 0)), (8, .one (.po 8 0)), (9, vI ((j + 1 : Nat) : Int))]) (fun j => [(1, .box 34 (encP p)), (2, .box 34 zPat), (6, .box 34 (encP b)), (101, .tok 34 20), (8, .box 34 (encP (tailP b j)))]) (fun j => (j : Int) + 1 ≤ p.max - p.min) (fun j => (p.max - p.min).toNat - j) 0 (by omega) (by (repeat (first | exact sub_nil _ | refine sub_cons (by rfl) ?_))) (by exact sub_cons (by rfl) (sub_cons (by rfl) (sub_cons (by rfl) (sub_cons (by rfl) (sub_cons (by rw [tailP, quant_cells]; rfl) (sub_nil _)))))) ?_
            intro j hj2
            by_cases hlt4 : (j : Int) + 1 < p.max - p.min
            · have hnt := nodes_tail b j
              have hbj : (([b, tailP b j] : List Pt).flatMap (openP 3)).length ≤ 1000000 := by
                refine Nat.le_trans (opens_len 3 _) ?_
                have : (j + 1) * (nodesP b + 2) ≤ 20 * 20002 := Nat.mul_le_mul (by omega) (by omega)
                simp only [List.map_cons, List.map_nil, List.sum_cons, List.sum_nil]
                omega
              have hJ := refJoin_v 3 [b, tailP b j] hbj
              repeat (first | refine W_seq ?_ | refine W_region ?_ | ((first | refine RL_nil ?_ | refine W_skip ?_ ); (first | change W _ _ _ _ _ | change Exists _ )) | (refine isRL ?_; first | refine uMv ?_ | refine uAs ?_ | (refine isBin ?_; first | refine uIb ?_ | refine uBb true ?_ ) | (refine isLd ?_; first | refine uLb ?_ | refine uL1 ?_ ) | (refine isCl ?_; first | refine uC (hJ) ?_ ) | (refine isFa ?_; first | refine uP ?_) | (refine isBd ?_; first | refine uBd ?_ ) | (refine isSt ?_; first | refine uSw ?_ ) | refine uBs ?_ ) | refine W_block ?_ | refine wT fun _ => ?_ )
              exact ⟨j + 1, by omega, by omega, (by (repeat (first | exact sub_nil _ | refine sub_cons (by rfl) ?_))), (by exact sub_cons (by rfl) (sub_cons (by rfl) (sub_cons (by rfl) (sub_cons (by rfl) (sub_cons (by rw [tailP, quant_cells]; rfl) (sub_nil _))))))⟩
            · have hje : j = (p.max - p.min - 1).toNat := by omega
              have hnx' : (List.replicate i b).map encP ++ [encP (tailP b j)] = (List.replicate i b ++ [tailP b (p.max - p.min - 1).toNat]).map encP := by rw [← hje, List.map_append]; rfl
              repeat (first | refine W_seq ?_ | refine W_region ?_ | ((first | refine RL_nil ?_ | refine W_exit ?_ | refine W_ret ?_); (first | change W _ _ _ _ _ | change EndQ _ _ _ _ _ _ )) | (refine isRL ?_; first | refine uMv ?_ | refine uAs ?_ | (refine isBin ?_; first | refine uIb ?_ | refine uBb false ?_ ) | (refine isLd ?_; first | refine uLb ?_ | refine uL1 ?_ ) | (refine isCl ?_; first | refine uC (hj) ?_ | refine uAk ?_ ) | (refine isFa ?_; first | refine uP ?_) | (refine isSt ?_; first | refine uSw ?_ ) | refine uBs ?_ ) | refine wF fun _ => ?_)
              exact end_b rfl rfl rfl rfl rfl (encP_len _) (by rw [hfin, hmore, him])
          · rw [if_neg hgt] at hmore
            rw [hmore, List.append_nil, ← him] at hj
            repeat (first | refine W_seq ?_ | refine W_region ?_ | ((first | refine RL_nil ?_ | refine W_skip ?_ | refine W_exit ?_ | refine W_ret ?_); (first | change W _ _ _ _ _ | change EndQ _ _ _ _ _ _ )) | (refine isRL ?_; first | refine uMv ?_ | (refine isBin ?_; first | refine uBb false ?_ ) | (refine isLd ?_; first | refine uL1 ?_ ) | (refine isCl ?_; first | refine uC (hj) ?_ ) | (refine isFa ?_; first | refine uP ?_) | (refine isSt ?_; first | refine uSw ?_ ) ) | refine wF fun _ => ?_)
            exact end_b rfl rfl rfl rfl rfl (encP_len _) (by rw [hfin, hmore, List.append_nil, him])
    · have k34 : p.kind = 3 ∨ p.kind = 4 := by have := right_kind h; omega
      have hb := Nat.le_trans (opens_len p.kind (p.kids.map normal)) (sum_normal h k34)
      have hj := refJoin_v p.kind (p.kids.map normal) (by omega)
      repeat (first | refine W_seq ?_ | refine W_region ?_ | ((first | refine RL_nil ?_ | refine W_exit ?_ | refine W_ret ?_); (first | change W _ _ _ _ _ | skip)) | (refine isRL ?_; first | refine uMv ?_ | (refine isBin ?_; first | refine uBb true ?_ | refine uBb false ?_ ) | (refine isLd ?_; first | refine uL1 ?_ ) | (refine isCl ?_; first | refine uC (hj) ?_ | refine uP ?_ ) | (refine isFa ?_; first | refine uP ?_) | (refine isSt ?_; first | refine uSw ?_ ) ) | refine wT fun _ => ?_ | refine wF fun _ => ?_)
      exact end_b rfl rfl rfl rfl rfl (encP_len _) (by rw [normal_group (by omega)])
end Go.Proofs.YtjhkehloipmjfaaGreat
/- Walks: a pattern's machine is built, by the document; a machine as the document's. -/
namespace Go.Proofs.YtjhkehloipmjfaaGreat
open Go.RowKit
set_option maxRecDepth 100000 in
set_option maxHeartbeats 4000000 in
theorem rbuild_m (p : Pt) (hs : shapeP p = true) (hn : nodesP p ≤ 20000) : CallsM Tryz.prog 12 [.dat (encP p)] [] (.dat (encA (buildM p))) [] := by
  have hL := rlay_m p 0 1 ⟨[], [], 2⟩ hs (fits_zero hn)
  unfold buildM
  generalize layM p 0 1 ⟨[], [], 2⟩ = M at hL ⊢
  simp only [rautoS, List.map_nil] at hL
  (refine callsM_of_W (Ty := Ty) ty_ok Tryz.func12 rfl rfl rfl (by rfl) fun w0 S0 hp => ?_; simp only [argsF, List.zipIdx_cons, List.zipIdx_nil, List.map_cons, List.map_nil, Nat.zero_add])
  iterate 7 (first | refine W_seq ?_ | refine W_region ?_ | ((first | refine RL_nil ?_ ); (first | change W _ _ _ _ _ )) | (refine isRL ?_; first | refine uBx ?_ | refine uN ?_))
  refine uBdZ ?_
  refine uBxO ?_
  refine uNilO 5 1001 0 34 20 ?_
  refine uNilO 5 1002 1 89 3 ?_
  refine uRn 5 1000 (pin_none (hp 1000 rfl)) ?_
  repeat' (first | refine W_seq ?_ | refine W_region ?_ | ((first | refine RL_nil ?_ | refine W_ret ?_); (first | change W _ _ _ _ _ | change EndM _ _ _ _ _ _ _ )) | (refine isRL ?_; first | refine uMv ?_ | refine uAs ?_ | (refine isLd ?_; first | refine uLb ?_ | refine uP ?_) | (refine isCl ?_; first | refine uM (hL) ?_ ) | (refine isSt ?_; first | refine uSw ?_ ) | refine uNp ?_ ))
  exact end_m (by rfl) rfl (by (repeat (first | exact gHas_nil _ )))
end Go.Proofs.YtjhkehloipmjfaaGreat
/- Walks: two machines that are the same. -/
namespace Go.Proofs.YtjhkehloipmjfaaGreat
open Go.RowKit
section
variable {X : Ctx} {fr : Fr} {σ : Obs} {o : Oper} {ops : Array Oper} {rest : List Oper} {d : Nat} {xx yy : Operand} {γ : Nat → Nat} {T : Nat → Value} {S : Nat → Nat → Prop} {w : World} {a : Act}
variable {τ0 σB : Obs} {K : List Cr} {C0 : Cons} {QD : Fr → Obs → Prop} {j : Nat}
end
section
variable {w0 : W0} {S0 : Nat → Nat → Prop} {nt : Nat} {fr : Fr} {σ τ0 σB : Obs} {o : Oper} {ops : Array Oper} {rest : List Oper} {d : Nat} {xx yy : Operand} {QD : Fr → Obs → Prop} {K : List Cr} {C0 : Cons} {j : Nat}
end
end Go.Proofs.YtjhkehloipmjfaaGreat
/- The library's contracts on slices.Sort and slices.Compact of texts at this program: each is one application of a contract over any program; the layings in plain words. Printed by wip/tools/lays.sh. -/
namespace Go.Proofs.YtjhkehloipmjfaaGreat
open Go.RowKit Go.Sort Go.Shelf
def Tryz.sort88_ren : Go.Shelf.Ren := ⟨fun | 6 => 88 | 8 => 111 | 9 => 110 | 19 => 140 | 20 => 141 | 21 => 131 | 22 => 132 | 23 => 133 | 24 => 134 | 25 => 135 | 26 => 136 | 27 => 137 | 28 => 138 | 29 => 139 | 36 => 165 | 31 => 166 | 32 => 167 | 37 => 168 | 38 => 169 | 39 => 170 | 41 => 188 | n => n, fun | 27 => 76 | 29 => 9 | 3 => 3 | 32 => 134 | 26 => 76 | 0 => 0 | 44 => 159 | 46 => 162 | 4 => 4 | 36 => 197 | 35 => 196 | 41 => 133 | 5 => 5 | 9 => 9 | 53 => 221 | 57 => 225 | 63 => 238 | 64 => 239 | n => n, fun | n => n⟩
theorem Tryz.sort88 : Go.Proofs.SlLaysM.n6 Tryz.prog Tryz.sort88_ren := {
  mixed := by kernel_rfl
  f6 := ⟨Tryz.f88.name, by decide, Tryz.func88.trans (congrArg some (by kernel_rfl))⟩
  f8 := Tryz.func111.trans (congrArg some (by kernel_rfl))
  f9 := ⟨Tryz.f110.name, by decide, Tryz.func110.trans (congrArg some (by kernel_rfl))⟩
  f19 := Tryz.func140.trans (congrArg some (by kernel_rfl))
  f20 := Tryz.func141.trans (congrArg some (by kernel_rfl))
  f21 := ⟨Tryz.f131.name, by decide, Tryz.func131.trans (congrArg some (by kernel_rfl))⟩
  f22 := ⟨Tryz.f132.name, by decide, Tryz.func132.trans (congrArg some (by kernel_rfl))⟩
  f23 := ⟨Tryz.f133.name, by decide, Tryz.func133.trans (congrArg some (by kernel_rfl))⟩
  f24 := ⟨Tryz.f134.name, by decide, Tryz.func134.trans (congrArg some (by kernel_rfl))⟩
  f25 := ⟨Tryz.f135.name, by decide, Tryz.func135.trans (congrArg some (by kernel_rfl))⟩
  f26 := ⟨Tryz.f136.name, by decide, Tryz.func136.trans (congrArg some (by kernel_rfl))⟩
  f27 := ⟨Tryz.f137.name, by decide, Tryz.func137.trans (congrArg some (by kernel_rfl))⟩
  f28 := ⟨Tryz.f138.name, by decide, Tryz.func138.trans (congrArg some (by kernel_rfl))⟩
  f29 := ⟨Tryz.f139.name, by decide, Tryz.func139.trans (congrArg some (by kernel_rfl))⟩
  f31 := Tryz.func166.trans (congrArg some (by kernel_rfl))
  f32 := Tryz.func167.trans (congrArg some (by kernel_rfl))
  f36 := ⟨Tryz.f165.name, by decide, Tryz.func165.trans (congrArg some (by kernel_rfl))⟩
  f37 := ⟨Tryz.f168.name, by decide, Tryz.func168.trans (congrArg some (by kernel_rfl))⟩
  f38 := ⟨Tryz.f169.name, by decide, Tryz.func169.trans (congrArg some (by kernel_rfl))⟩
  f39 := ⟨Tryz.f170.name, by decide, Tryz.func170.trans (congrArg some (by kernel_rfl))⟩
  f41 := ⟨Tryz.f188.name, by decide, Tryz.func188.trans (congrArg some (by kernel_rfl))⟩
  t0 := Tryz.underlying0
  a0 := Tryz.isAgg0
  z0 := Tryz.sizeOf0
  v0 := Tryz.zeroValue0
  t3 := Tryz.underlying3
  a3 := Tryz.isAgg3
  z3 := Tryz.sizeOf3
  v3 := Tryz.zeroValue3
  t4 := Tryz.underlying4
  a4 := Tryz.isAgg4
  z4 := Tryz.sizeOf4
  v4 := Tryz.zeroValue4
  t5 := Tryz.underlying5
  a5 := Tryz.isAgg5
  z5 := Tryz.sizeOf5
  v5 := Tryz.zeroValue5
  t9 := Tryz.underlying9
  a9 := Tryz.isAgg9
  z9 := Tryz.sizeOf9
  v9 := Tryz.zeroValue9
  t26 := Tryz.underlying76
  a26 := Tryz.isAgg76
  z26 := Tryz.sizeOf76
  v26 := Tryz.zeroValue76
  t27 := Tryz.underlying76
  a27 := Tryz.isAgg76
  z27 := Tryz.sizeOf76
  v27 := Tryz.zeroValue76
  t29 := Tryz.underlying9
  a29 := Tryz.isAgg9
  z29 := Tryz.sizeOf9
  v29 := Tryz.zeroValue9
  t32 := Tryz.underlying134
  a32 := Tryz.isAgg134
  z32 := Tryz.sizeOf134
  v32 := Tryz.zeroValue134
  t35 := Tryz.underlying196
  a35 := Tryz.isAgg196
  z35 := Tryz.sizeOf196
  v35 := Tryz.zeroValue196
  t36 := Tryz.underlying197
  a36 := Tryz.isAgg197
  z36 := Tryz.sizeOf197
  v36 := Tryz.zeroValue197
  t41 := Tryz.underlying133
  a41 := Tryz.isAgg133
  z41 := Tryz.sizeOf133
  v41 := Tryz.zeroValue133
  t44 := Tryz.underlying159
  a44 := Tryz.isAgg159
  z44 := Tryz.sizeOf159
  v44 := Tryz.zeroValue159
  t46 := Tryz.underlying162
  a46 := Tryz.isAgg162
  z46 := Tryz.sizeOf162
  v46 := Tryz.zeroValue162
  t53 := Tryz.underlying221
  a53 := Tryz.isAgg221
  z53 := Tryz.sizeOf221
  v53 := Tryz.zeroValue221
  t57 := Tryz.underlying225
  a57 := Tryz.isAgg225
  z57 := Tryz.sizeOf225
  v57 := Tryz.zeroValue225
  t63 := Tryz.underlying238
  a63 := Tryz.isAgg238
  z63 := Tryz.sizeOf238
  v63 := Tryz.zeroValue238
  t64 := Tryz.underlying239
  a64 := Tryz.isAgg239
  z64 := Tryz.sizeOf239
  v64 := Tryz.zeroValue239 }
theorem sorts_v : SortsG Tryz.prog 88 := ⟨enters_of Tryz.func88 (by kernel_rfl) rfl, fun blk off cap ss W hH hblk hsz => AnyM.slices_Sort_string Tryz.sort88 blk off cap ss W hH hblk hsz, fun p cap W => AnyM.slices_Sort_string_none Tryz.sort88 p cap W⟩
end Go.Proofs.YtjhkehloipmjfaaGreat
namespace Go.Proofs.YtjhkehloipmjfaaGreat
open Go.RowKit Go.Sort Go.Shelf
def Tryz.compact60_ren : Go.Shelf.Ren := ⟨fun | 194 => 60 | n => n, fun | 31 => 76 | 9 => 9 | 3 => 3 | 4 => 4 | 0 => 0 | n => n, fun | n => n⟩
theorem Tryz.compact60 : Go.Proofs.Lays.n194 Tryz.prog Tryz.compact60_ren := {
  mixed := by kernel_rfl
  f194 := Tryz.func60.trans (congrArg some (by kernel_rfl))
  t0 := Tryz.underlying0
  a0 := Tryz.isAgg0
  z0 := Tryz.sizeOf0
  v0 := Tryz.zeroValue0
  t3 := Tryz.underlying3
  a3 := Tryz.isAgg3
  z3 := Tryz.sizeOf3
  v3 := Tryz.zeroValue3
  t4 := Tryz.underlying4
  a4 := Tryz.isAgg4
  z4 := Tryz.sizeOf4
  v4 := Tryz.zeroValue4
  t9 := Tryz.underlying9
  a9 := Tryz.isAgg9
  z9 := Tryz.sizeOf9
  v9 := Tryz.zeroValue9
  t31 := Tryz.underlying76
  a31 := Tryz.isAgg76
  z31 := Tryz.sizeOf76
  v31 := Tryz.zeroValue76 }
theorem comps_v : CompG Tryz.prog 60 := ⟨enters_of Tryz.func60 (by kernel_rfl) rfl, fun blk off cap zs w h1 h2 h3 => calls_of_every_depth fun D => AnyS.slices_Compact_string_in Tryz.compact60 D blk off cap zs w h1 h2 h3, fun p cap w => calls_of_every_depth fun D => AnyS.slices_Compact_string_empty_in Tryz.compact60 D p cap w⟩
end Go.Proofs.YtjhkehloipmjfaaGreat
