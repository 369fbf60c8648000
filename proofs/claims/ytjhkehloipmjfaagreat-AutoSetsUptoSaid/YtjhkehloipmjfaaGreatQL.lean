/- Walks: patterns that are the same; how many parts, pieces; elements. -/
import Derived.Test.YtjhkehloipmjfaaGreatWO
import Derived.Test.YtjhkehloipmjfaaGreatQK
namespace Go.Proofs.YtjhkehloipmjfaaGreat
open Go.RowKit
theorem ne_self (a : Int) : (a != a) = false := by simp
set_option maxRecDepth 100000 in
theorem countP_v : ∀ p : Pt, CallsV Tryz.prog 26 [.dat (encP p)] (.val (vI (countP p))) := Pt.ind fun p ih => by
  have hL := countE_v p.label
  have hW := countE_v p.wher
  (refine callsV_of_W (Ty := Ty) ty_ok Tryz.func26 rfl rfl rfl fun w0 S0 => ?_; simp only [argsF, List.zipIdx_cons, List.zipIdx_nil, List.map_cons, List.map_nil, Nat.zero_add])
  have hlm : (p.kids.map encP).length = p.kids.length := List.length_map _
  repeat (first | refine W_seq ?_ | refine W_region ?_ | ((first | refine RL_nil ?_ ); (first | change W _ _ _ _ _ )) | (refine isRL ?_; first | refine uAs ?_ | refine uBx ?_ ) | refine W_block ?_ | refine uAny ?_ | (refine isD ?_; first | refine mAs ?_ | (refine imBin ?_; first | refine mP ?_) | (refine imLd ?_; first | refine mL1 ?_ ) | (refine imCl ?_; first | refine mC (hL) ?_ | refine mC (hW) ?_ ) | (refine imFa ?_; first | refine mP ?_) ))
  refine W_for (α := Nat) (fun k => [(1, .one (.po 1 0)), (3, vI ((p.kids.take k).foldl (fun n q => IntKind.i64.wrap (n + countP q)) (IntKind.i64.wrap (IntKind.i64.wrap (1 + countE p.label) + countE p.wher)))), (4, vI k)]) (fun _ => [(1, .box 34 (encP p))]) (fun k => k ≤ p.kids.length) (fun k => p.kids.length - k) 0 (Nat.zero_le _) (by (repeat (first | exact sub_nil _ | refine sub_cons (by rfl) ?_))) (by (repeat (first | exact sub_nil _ | refine sub_cons (by rfl) ?_))) ?_
  intro k hk
  refine W_limB (k := 1) (j := 19) (rows := p.kids.map encP) rfl (by rw [encP_eq]; rfl) fun hlim => ?_
  by_cases hlt : k < p.kids.length
  · obtain ⟨q, hq⟩ : ∃ q, p.kids[k]? = some q := ⟨_, List.getElem?_eq_getElem hlt⟩
    have hQ := ih q (List.mem_of_getElem? hq)
    have hnx := foldl_next (g := fun (n : Int) q => IntKind.i64.wrap (n + countP q)) (b := IntKind.i64.wrap (IntKind.i64.wrap (1 + countE p.label) + countE p.wher)) hq
    repeat (first | refine W_seq ?_ | refine W_region ?_ | ((first | refine RL_nil ?_ | refine W_skip ?_ ); (first | change W _ _ _ _ _ | change Exists _ )) | (refine isRL ?_; first | refine uMv ?_ | refine uAs ?_ | (refine isBin ?_; first | refine uIb ?_ | refine uBb true ?_ | refine uP ?_) | (refine isLd ?_; first | refine uLp ?_ | refine uL1 ?_ ) | (refine isCl ?_; first | refine uC (hQ) ?_ | refine uP ?_) | (refine isFa ?_; first | refine uP ?_) | refine uX ?_ ) | refine W_block ?_ | refine wT fun _ => ?_ )
    rw [← hnx]
    exact ⟨k + 1, by omega, hlt, (by (repeat (first | exact sub_nil _ | refine sub_cons (by rfl) ?_))), (by (repeat (first | exact sub_nil _ | refine sub_cons (by rfl) ?_)))⟩
  · have hkl : k = p.kids.length := by omega
    subst hkl
    rw [List.take_length]
    repeat (first | refine W_seq ?_ | refine W_region ?_ | ((first | refine RL_nil ?_ | refine W_exit ?_ | refine W_ret ?_ ); (first | change W _ _ _ _ _ | change EndQ _ _ _ _ _ _ )) | (refine isRL ?_; first | refine uMv ?_ | refine uAs ?_ | (refine isBin ?_; first | refine uBb false ?_ ) | (refine isLd ?_; first | refine uL1 ?_ ) | (refine isCl ?_; first | refine uP ?_) | (refine isFa ?_; first | refine uP ?_) ) | refine wF fun _ => ?_ )
    exact end_r (by rfl) (vI_eq (countP_eq p).symm)
end Go.Proofs.YtjhkehloipmjfaaGreat
/- Walks: a set goes along an edge; sets that are the same. -/
namespace Go.Proofs.YtjhkehloipmjfaaGreat
open Go.RowKit
set_option maxRecDepth 100000 in
set_option maxHeartbeats 16000000 in
theorem go_v (m : Mach) (n : Nat) (fit : List (List Bool)) (s : List Bool) (edge along top : Int) (hm : MachOk m n) (hf : FitOk 2 m fit edge) (hf2 : FitOk 1 m fit top) : CallsV Tryz.prog 16 [.dat (encA m), vL (fit.map encR), vL (s.map encB), vI edge, vI along, vI top] (.own 4 1 ((closeB m.moves (staysB m fit top) (hasB (goF m.moves (goesB m fit edge along) (hasB s) n)) n).map encB)) := by
  have hC := fun (s : List Bool) => close_v m n fit s top hm hf2
  obtain ⟨hst, hn, hml, hL, hel⟩ := hm
  have hsl : (s.map encB).length = s.length := List.length_map _
  have hmm : (m.moves.map encMv).length = m.moves.length := List.length_map _
  have hG := fun (v : Mv) (hv : v ∈ m.moves) => goes_v m fit v edge along hf (hel v hv)
  have hrep : List.replicate n [D.v (.bool false)] = (List.replicate n false).map encB := by rw [List.map_replicate]; rfl
  unfold encA at hG hC ⊢
  rw [hst] at hG hC ⊢
  (refine callsV_of_W (Ty := Ty) ty_ok Tryz.func16 rfl rfl rfl fun w0 S0 => ?_; simp only [argsF, List.zipIdx_cons, List.zipIdx_nil, List.map_cons, List.map_nil, Nat.zero_add])
  repeat' (first | refine W_seq ?_ | refine W_region ?_ | ((first | refine RL_nil ?_ ); (first | change W _ _ _ _ _ )) | (refine isRL ?_; first | refine uMk n ?_ | refine uMv ?_ | refine uAs ?_ | (refine isLd ?_; first | refine uL1 ?_ ) | (refine isCl ?_; first | refine uP ?_) | (refine isFa ?_; first | refine uP ?_) | refine uBx ?_ ) | refine W_block ?_ )
  rw [hrep]
  refine W_for (α := Nat) (fun i => [(1, vL (fit.map encR)), (2, vL (s.map encB)), (3, vI edge), (4, vI along), (5, vI top), (6, .one (.po 6 0)), (13, .one (.win 18 0 n n 1)), (20, vL (m.moves.map encMv)), (21, vI ((m.moves.map encMv).length : Int)), (22, vI i)]) (fun i => [(6, .box 45 [.sl (m.elems.map encP), .sl (m.moves.map encMv), .v (.int .i64 (n : Int))]), (18, .arr 4 1 (((m.moves.take i).foldl (goStep (goesB m fit edge along) (hasB s)) (List.replicate n false)).map encB))]) (fun i => i ≤ m.moves.length) (fun i => m.moves.length - i) 0 (Nat.zero_le _) (by (repeat (first | exact sub_nil _ | refine sub_cons (by rfl) ?_))) (by (repeat (first | exact sub_nil _ | refine sub_cons (by rfl) ?_))) ?_
  intro i hi
  have hln : ((m.moves.take i).foldl (goStep (goesB m fit edge along) (hasB s)) (List.replicate n false)).length = n := by rw [goFold_len]; simp
  by_cases hlt : i < m.moves.length
  · obtain ⟨v, hv⟩ : ∃ v, m.moves[i]? = some v := ⟨_, List.getElem?_eq_getElem hlt⟩
    have hvm := List.mem_of_getElem? hv
    have hnx : (m.moves.take (i + 1)).foldl (goStep (goesB m fit edge along) (hasB s)) (List.replicate n false) = goStep (goesB m fit edge along) (hasB s) ((m.moves.take i).foldl (goStep (goesB m fit edge along) (hasB s)) (List.replicate n false)) v := foldl_next hv
    obtain ⟨b1, b2, b3, b4⟩ := hL v hvm
    have hH := has_v s v.src b1
    have hGv := hG v hvm
    unfold encMv at hGv
    generalize ((m.moves.take i).foldl (goStep (goesB m fit edge along) (hasB s)) (List.replicate n false)) = out at hln hnx ⊢
    have hu := upd_B (l := out) (k := v.dst.toNat) true (by omega)
    cases hs : hasB s v.src.toNat with
    | false =>
      rw [hs] at hH
      rw [show goStep (goesB m fit edge along) (hasB s) out v = out by unfold goStep; rw [hs]; rfl] at hnx
      repeat' (first | refine W_seq ?_ | refine W_region ?_ | ((first | refine RL_nil ?_ | refine W_skip ?_ ); (first | change W _ _ _ _ _ | change Exists _ )) | (refine isRL ?_; first | refine uMv ?_ | refine uO ?_ | (refine isBin ?_; first | refine uIb ?_ | refine uBb true ?_ ) | (refine isLd ?_; first | refine uLp ?_ | refine uL1 ?_ ) | (refine isCl ?_; first | refine uC (hH) ?_ ) | (refine isFa ?_; first | refine uP ?_) | (refine isSt ?_; first | refine uSw ?_ ) | refine uX ?_ | refine uP ?_ | refine uN ?_ ) | refine W_block ?_ | refine wT fun _ => ?_ | refine wF fun _ => ?_ )
      exact ⟨i + 1, by omega, by omega, (by (repeat (first | exact sub_nil _ | refine sub_cons (by rfl) ?_))), (by simp only [hnx]; (repeat (first | exact sub_nil _ | refine sub_cons (by rfl) ?_)))⟩
    | true =>
      rw [hs] at hH
      cases hg : goesB m fit edge along v with
      | false =>
        rw [hg] at hGv
        rw [show goStep (goesB m fit edge along) (hasB s) out v = out by unfold goStep; rw [hs, hg]; rfl] at hnx
        repeat' (first | refine W_seq ?_ | refine W_region ?_ | ((first | refine RL_nil ?_ | refine W_skip ?_ ); (first | change W _ _ _ _ _ | change Exists _ )) | (refine isRL ?_; first | refine uMv ?_ | (refine isBin ?_; first | refine uIb ?_ | refine uBb true ?_ ) | (refine isLd ?_; first | refine uLp ?_ | refine uLb ?_ | refine uL1 ?_ ) | (refine isCl ?_; first | refine uC (hH) ?_ | refine uC (hGv) ?_ ) | (refine isFa ?_; first | refine uP ?_) | (refine isSt ?_; first | refine uSw ?_ ) | refine uX ?_ | refine uP ?_ | refine uN ?_ ) | refine W_block ?_ | refine wT fun _ => ?_ | refine wF fun _ => ?_ )
        exact ⟨i + 1, by omega, by omega, (by (repeat (first | exact sub_nil _ | refine sub_cons (by rfl) ?_))), (by simp only [hnx]; (repeat (first | exact sub_nil _ | refine sub_cons (by rfl) ?_)))⟩
      | true =>
        rw [hg] at hGv
        rw [show goStep (goesB m fit edge along) (hasB s) out v = out.set v.dst.toNat true by unfold goStep; rw [hs, hg]; rfl] at hnx
        repeat' (first | refine W_seq ?_ | refine W_region ?_ | ((first | refine RL_nil ?_ | refine W_skip ?_ ); (first | change W _ _ _ _ _ | change Exists _ )) | (refine isRL ?_; first | refine uWix ?_ | refine uPev ((out.set v.dst.toNat true).map encB) ?_ (hrows := hu) (hm := by rw [List.length_map]; omega) | refine uMv ?_ | (refine isBin ?_; first | refine uIb ?_ | refine uBb true ?_ ) | (refine isLd ?_; first | refine uLp ?_ | refine uLb ?_ | refine uL1 ?_ ) | (refine isCl ?_; first | refine uC (hH) ?_ | refine uC (hGv) ?_ ) | (refine isFa ?_; first | refine uP ?_) | (refine isSt ?_; first | refine uSw ?_ ) | refine uX ?_ | refine uP ?_ | refine uN ?_ ) | refine W_block ?_ | refine wT fun _ => ?_ )
        exact ⟨i + 1, by omega, by omega, (by (repeat (first | exact sub_nil _ | refine sub_cons (by rfl) ?_))), (by simp only [hnx]; (repeat (first | exact sub_nil _ | refine sub_cons (by rfl) ?_)))⟩
  · obtain rfl : i = m.moves.length := by omega
    rw [List.take_length] at hln ⊢
    have hCg := hC (m.moves.foldl (goStep (goesB m fit edge along) (hasB s)) (List.replicate n false))
    have e : goF m.moves (goesB m fit edge along) (hasB s) n = m.moves.foldl (goStep (goesB m fit edge along) (hasB s)) (List.replicate n false) := rfl
    rw [e]
    generalize m.moves.foldl (goStep (goesB m fit edge along) (hasB s)) (List.replicate n false) = out at hCg hln ⊢
    iterate 5 (first | refine W_seq ?_ | refine W_region ?_ | ((first | refine RL_nil ?_ ); (first | change W _ _ _ _ _ )) | (refine isRL ?_; first | (refine isBin ?_; first | refine uBb false ?_ ) ) )
    refine uArrTok (n := n) (rows := out.map encB) 13 18 ?_ (by rw [List.length_map]; exact hln.symm) (by rw [List.length_map]; omega)
    repeat' (first | refine W_seq ?_ | refine W_region ?_ | ((first | refine RL_nil ?_ | refine W_exit ?_ | refine W_ret ?_); (first | change W _ _ _ _ _ | change EndQ _ _ _ _ _ _ )) | (refine isRL ?_; first | refine uMv ?_ | refine uAs ?_ | (refine isLd ?_; first | refine uLb ?_ ) | (refine isCl ?_; first | refine uCO (hCg) ?_ ) ) | refine wF fun _ => ?_ )
    exact end_ro (by rfl) (by rfl) rfl
set_option maxRecDepth 100000 in
set_option maxHeartbeats 4000000 in
theorem sameB_v (l : List Bool) (hb : l.length ≤ 1000000) : CallsV Tryz.prog 13 [vL (l.map encB), vL (l.map encB)] (.val (vB true)) := by
  have hlm : (l.map encB).length = l.length := List.length_map _
  have c1 := ne_self ((l.map encB).length : Int)
  (refine callsV_of_W (Ty := Ty) ty_ok Tryz.func13 rfl rfl rfl fun w0 S0 => ?_; simp only [argsF, List.zipIdx_cons, List.zipIdx_nil, List.map_cons, List.map_nil, Nat.zero_add])
  repeat' (first | refine W_seq ?_ | refine W_region ?_ | ((first | refine RL_nil ?_ | refine W_skip ?_ ); (first | change W _ _ _ _ _ )) | (refine isRL ?_; first | refine uMv ?_ | refine uAs ?_ | (refine isBin ?_; first | refine uBb false ?_ ) | (refine isCl ?_; first | refine uP ?_) ) | refine W_block ?_ | refine wF fun _ => ?_ )
  refine W_for (α := Nat) (fun i => [(0, vL (l.map encB)), (1, vL (l.map encB)), (5, vI i)]) (fun _ => []) (fun i => i ≤ l.length) (fun i => l.length - i) 0 (Nat.zero_le _) (by (repeat (first | exact sub_nil _ | refine sub_cons (by rfl) ?_))) (by (repeat (first | exact sub_nil _ ))) ?_
  intro i hi
  by_cases hlt : i < l.length
  · obtain ⟨b, hbb⟩ : ∃ b, l[i]? = some b := ⟨_, List.getElem?_eq_getElem hlt⟩
    cases b <;> (
      repeat' (first | refine W_seq ?_ | refine W_region ?_ | ((first | refine RL_nil ?_ | refine W_skip ?_ | refine mN ?_); (first | change W _ _ _ _ _ | change Exists _ )) | (refine isRL ?_; first | refine uMv ?_ | refine uAs ?_ | (refine isBin ?_; first | refine uIb ?_ | refine uBb true ?_ ) | (refine isCl ?_; first | refine uP ?_) ) | refine W_block ?_ | refine wT fun _ => ?_ | refine wF fun _ => ?_ | refine uAny ?_ | (refine isD ?_; first | refine mMv ?_ | (refine imBin ?_; first | refine mBb false ?_ ) | (refine imLd ?_; first | refine mL2 ?_ ) | refine mX ?_ ) )
      exact ⟨i + 1, by omega, by omega, (by (repeat (first | exact sub_nil _ | refine sub_cons (by rfl) ?_))), (by (repeat (first | exact sub_nil _ )))⟩)
  · obtain rfl : i = l.length := by omega
    repeat' (first | refine W_seq ?_ | refine W_region ?_ | ((first | refine RL_nil ?_ | refine W_exit ?_ | refine W_ret ?_ ); (first | change W _ _ _ _ _ | change EndQ _ _ _ _ _ _ )) | (refine isRL ?_; first | refine uMv ?_ | refine uAs ?_ | (refine isBin ?_; first | refine uBb false ?_ ) | (refine isCl ?_; first | refine uP ?_) ) | refine wF fun _ => ?_ )
    exact end_r (by rfl) rfl
end Go.Proofs.YtjhkehloipmjfaaGreat
