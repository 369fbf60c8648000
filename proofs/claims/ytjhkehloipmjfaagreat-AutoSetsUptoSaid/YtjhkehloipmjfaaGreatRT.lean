/- Walks: what fits, by the reference: a table, of which the shape is known. -/
import Derived.Test.YtjhkehloipmjfaaGreatRP
import Derived.Test.YtjhkehloipmjfaaGreatQH
import Derived.Test.YtjhkehloipmjfaaGreatQI
import Derived.Test.YtjhkehloipmjfaaGreatQK
namespace Go.Proofs.YtjhkehloipmjfaaGreat
open Go.RowKit
set_option maxRecDepth 100000 in
theorem none13_x (e : E) : CallsN Tryz.prog 64 [.dat (encE e)] [] OneB := by
  have hlm : (e.kids.map encE).length = e.kids.length := List.length_map _
  obtain ⟨z, hz⟩ : ∃ z, zeroV ⟨e.val.kind, e.val.n, e.val.f, e.val.s⟩ = z := ⟨_, rfl⟩
  cases z
  all_goals
    (refine callsN_of_W (Ty := Ty) ty_ok Tryz.func64 rfl rfl rfl (by rfl) fun w0 S0 hp => ?_; simp only [argsF, List.zipIdx_cons, List.zipIdx_nil, List.map_cons, List.map_nil, Nat.zero_add])
    repeat' (first | refine W_seq ?_ | refine W_region ?_ | ((first | refine RL_nil ?_ | refine W_ret ?_); (first | change W _ _ _ _ _ | change EndN _ _ _ _ _ _ )) | (refine isRL ?_; first | refine uMv ?_ | refine uAs ?_ | refine uO ?_ | (refine isBin ?_; first | refine uP ?_ | refine uEq true ?_ | refine uEq false ?_) | (refine isLd ?_; first | refine uL1 ?_ ) | (refine isCl ?_; first | refine uP ?_) | (refine isFa ?_; first | refine uP ?_) | (refine isBd ?_; first | refine uBd ?_ ) | refine uP ?_ | refine uBx ?_ | ((first | refine uGsD ?_ ?_ | refine uGs ?_ ?_) <;> intro hb)))
    all_goals exact end_x (by rfl) rfl (by (repeat (first | exact gHas_nil _ ))) ⟨_, rfl, rfl, trivial⟩
abbrev BoolI : VV → Obs → Prop := fun y σ1 => ∃ i : Bool × Int, y = .tup [vB i.1, vI i.2] ∧ σ1 = [] ∧ True
set_option maxRecDepth 100000 in
theorem fits14_x (p : Pt) (l : List ByteArray) (ps : List Pr) : CallsN Tryz.prog 32 [.dat (encP p), vL (l.map encS), vL (ps.map encPr)] [] BoolI := by
  have h1 := none13_x p.label
  have h2 := has06_x l p.label
  have h3 := holds05_x p.wher ps
  (refine callsN_of_W (Ty := Ty) ty_ok Tryz.func32 rfl rfl rfl (by rfl) fun w0 S0 hp => ?_; simp only [argsF, List.zipIdx_cons, List.zipIdx_nil, List.map_cons, List.map_nil, Nat.zero_add])
  repeat' (first | refine W_seq ?_ | refine W_region ?_ | ((first | refine RL_nil ?_ | refine W_skip ?_ | refine W_ret ?_); (first | change W _ _ _ _ _ | change EndN _ _ _ _ _ _ | change Exists _ )) | (refine isRL ?_; first | refine uNx h1 (fun i _ => ?_) | refine uNx h2 (fun i _ => ?_) | refine uNx h3 (fun i _ => ?_) | refine uMv ?_ | refine uAs ?_ | (refine isLd ?_; first | refine uL1 ?_ ) | (refine isFa ?_; first | refine uP ?_) | refine uP ?_ | refine uBx ?_ ) | ((first | refine wCsNB ?_ ?_ ) <;> intro hb))
  all_goals exact end_x (by rfl) rfl (by (repeat (first | exact gHas_nil _ ))) ⟨(_, _), rfl, rfl, trivial⟩
def rowN (g : Gr) (p : Pt) : Nat := if p.kind = 2 then g.edges.length else g.nodes.length
/-- a table has a row for each element, as long as there are nodes, or edges -/
structure TableOk (g : Gr) (l : List Pt) (fit : List (List Bool)) : Prop where
  len : fit.length = l.length
  row : ∀ (j : Nat) (q : Pt) (r : List Bool), l[j]? = some q → fit[j]? = some r → r.length = rowN g q
abbrev TabR (g : Gr) (l : List Pt) : VV → Obs → Prop := fun y σ1 => ∃ i : List (List Bool) × Int, y = .tup [vL (i.1.map encR), vI i.2] ∧ σ1 = [] ∧ (i.2 = 0 → TableOk g l i.1)
theorem sized_Bx (l : List Bool) : sized 1 (l.map encB) = true := by unfold sized; rw [List.all_map]; exact List.all_eq_true.2 fun _ _ => rfl
theorem sized_Rx (l : List (List Bool)) : sized 1 (l.map encR) = true := by unfold sized; rw [List.all_map]; exact List.all_eq_true.2 fun _ _ => rfl
set_option maxRecDepth 100000 in
set_option maxHeartbeats 16000000 in
theorem table15_x (g : Gr) (p : Pt) (hn : g.nodes.length ≤ 1000) (he : g.edges.length ≤ 1000) (hel : (elems p).length ≤ 1000000) : CallsN Tryz.prog 10 [.dat (encG g), .dat (encP p)] [] (TabR g (elems p)) := by
  have hE := relems_v p hel
  have hln : (g.nodes.map encNd).length = g.nodes.length := List.length_map _
  have hle : (g.edges.map encEd).length = g.edges.length := List.length_map _
  have hll : ((elems p).map encP).length = (elems p).length := List.length_map _
  unfold encG
  (refine callsN_of_W (Ty := Ty) ty_ok Tryz.func10 rfl rfl rfl (by rfl) fun w0 S0 hp => ?_; simp only [argsF, List.zipIdx_cons, List.zipIdx_nil, List.map_cons, List.map_nil, Nat.zero_add])
  repeat' (first | refine W_seq ?_ | refine W_region ?_ | ((first | refine RL_nil ?_ ); (first | change W _ _ _ _ _ )) | (refine isRL ?_; first | refine uAs ?_ | (refine isLd ?_; first | refine uLb ?_ ) | (refine isCl ?_; first | refine uC (hE) ?_ ) | refine uBx ?_ ) | refine W_block ?_ )
  refine uNil 9 300 35 1 ?_
  refine W_for (α := Nat × Bool × Bool × List (List Bool)) (fun x => [(2, .one (.po 2 0)), (6, vL ((elems p).map encP)), (7, vB x.2.1), (8, vB x.2.2.1), (9, .one (.own 300 (x.2.2.2.map encR))), (10, vI x.1)]) (fun _ => [(2, .box 25 [.sl (g.nodes.map encNd), .sl (g.edges.map encEd)]), (300, .tok 35 1)]) (fun x => x.1 ≤ (elems p).length ∧ x.2.2.2.length = x.1 ∧ ∀ (j : Nat) (q : Pt) (r : List Bool), (elems p)[j]? = some q → x.2.2.2[j]? = some r → r.length = rowN g q) (fun x => (elems p).length - x.1) (0, false, false, []) ⟨Nat.zero_le _, rfl, fun j q r _ hr => by simp at hr⟩ (by (repeat (first | exact sub_nil _ | refine sub_cons (by rfl) ?_))) (by (repeat (first | exact sub_nil _ | refine sub_cons (by rfl) ?_))) ?_
  rintro ⟨i, ov, wr, fit⟩ ⟨hi, hfl, hsh⟩
  dsimp only at hi hfl hsh ⊢
  by_cases hlt : i < (elems p).length
  rotate_left
  · have hil : i = (elems p).length := by omega
    have hTok : TableOk g (elems p) fit := ⟨by omega, hsh⟩
    cases wr <;> cases ov
    · repeat' (first | refine W_seq ?_ | refine W_region ?_ | ((first | refine RL_nil ?_ | refine W_skip ?_ | refine W_exit ?_ | refine W_ret ?_); (first | change W _ _ _ _ _ | change EndN _ _ _ _ _ _ )) | (refine isRL ?_; first | refine uMv ?_ | refine uAs ?_ | (refine isBin ?_; first | refine uBb false ?_ ) | (refine isCl ?_; first | refine uP ?_ ) ) | refine wF fun _ => ?_ )
      exact end_xg (by rfl) (by rfl) (by (repeat (first | exact gHas_nil _ ))) ⟨(fit, 0), rfl, rfl, fun _ => hTok⟩
    · repeat' (first | refine W_seq ?_ | refine W_region ?_ | ((first | refine RL_nil ?_ | refine W_skip ?_ | refine W_exit ?_ | refine W_ret ?_); (first | change W _ _ _ _ _ | change Exists _ )) | (refine isRL ?_; first | refine uMv ?_ | refine uAs ?_ | (refine isBin ?_; first | refine uBb false ?_ ) | (refine isCl ?_; first | refine uP ?_ ) ) | refine wT fun _ => ?_ | refine wF fun _ => ?_ )
      exact end_xg (by rfl) (by rfl) (by (repeat (first | exact gHas_nil _ ))) ⟨([], 7), rfl, rfl, fun h => absurd h (by decide)⟩
    · repeat' (first | refine W_seq ?_ | refine W_region ?_ | ((first | refine RL_nil ?_ | refine W_exit ?_ | refine W_ret ?_); (first | change W _ _ _ _ _ | change Exists _ )) | (refine isRL ?_; first | refine uMv ?_ | refine uAs ?_ | (refine isBin ?_; first | refine uBb false ?_ ) | (refine isCl ?_; first | refine uP ?_ ) ) | refine wT fun _ => ?_ | refine wF fun _ => ?_ )
      exact end_xg (by rfl) (by rfl) (by (repeat (first | exact gHas_nil _ ))) ⟨([], 4), rfl, rfl, fun h => absurd h (by decide)⟩
    · repeat' (first | refine W_seq ?_ | refine W_region ?_ | ((first | refine RL_nil ?_ | refine W_exit ?_ | refine W_ret ?_); (first | change W _ _ _ _ _ | change Exists _ )) | (refine isRL ?_; first | refine uMv ?_ | refine uAs ?_ | (refine isBin ?_; first | refine uBb false ?_ ) | (refine isCl ?_; first | refine uP ?_ ) ) | refine wT fun _ => ?_ | refine wF fun _ => ?_ )
      exact end_xg (by rfl) (by rfl) (by (repeat (first | exact gHas_nil _ ))) ⟨([], 4), rfl, rfl, fun h => absurd h (by decide)⟩
  · obtain ⟨q, hq⟩ : ∃ q, (elems p)[i]? = some q := ⟨_, List.getElem?_eq_getElem hlt⟩
    have hF := fits14_x q
    by_cases k2 : q.kind = 2
    · have hrn : rowN g q = g.edges.length := if_pos k2
      repeat' (first | refine W_seq ?_ | refine W_region ?_ | ((first | refine RL_nil ?_ | refine W_skip ?_ ); (first | change W _ _ _ _ _ )) | (refine isRL ?_; first | refine uMv ?_ | refine uAs ?_ | (refine isBin ?_; first | refine uBb true ?_ ) | (refine isLd ?_; first | refine uL1 ?_ | refine uL2 ?_ ) | (refine isCl ?_; first | refine uP ?_ ) | (refine isFa ?_; first | refine uP ?_) | refine uX ?_ | refine uBs ?_ ) | refine W_block ?_ | refine wT fun _ => ?_ )
      refine W_for (α := Nat × Bool × Bool × List Bool) (fun x => [(2, .one (.po 2 0)), (6, vL ((elems p).map encP)), (7, vB x.2.1), (8, vB x.2.2.1), (9, .one (.own 300 (fit.map encR))), (10, vI i), (11, .one (.own 26 (x.2.2.2.map encB))), (12, vI ((g.edges.map encEd).length : Int)), (13, vI x.1)]) (fun _ => [(2, .box 25 [.sl (g.nodes.map encNd), .sl (g.edges.map encEd)]), (300, .tok 35 1), (26, .tok 4 1)]) (fun x => x.1 ≤ g.edges.length ∧ x.2.2.2.length = x.1) (fun x => g.edges.length - x.1) (0, ov, wr, []) ⟨Nat.zero_le _, rfl⟩ (by (repeat (first | exact sub_nil _ | refine sub_cons (by rfl) ?_))) (by (repeat (first | exact sub_nil _ | refine sub_cons (by rfl) ?_))) ?_
      rintro ⟨k, ov', wr', row⟩ ⟨hk, hrl⟩
      dsimp only at hk hrl ⊢
      have hzr := sized_Bx row
      have hrlm : (row.map encB).length = row.length := List.length_map _
      by_cases hkt : k < g.edges.length
      · obtain ⟨x, hx⟩ : ∃ x, g.edges[k]? = some x := ⟨_, List.getElem?_eq_getElem hkt⟩
        have hap : ∀ b : Bool, row.map encB ++ [encB b] = (row ++ [b]).map encB := fun b => by rw [List.map_append]; rfl
        repeat' (first | refine W_seq ?_ | refine W_region ?_ | ((first | refine RL_nil ?_ | refine W_skip ?_ ); (first | change W _ _ _ _ _ | change Exists _ )) | (refine isRL ?_; first | refine uNx (hF _ _) (fun r _ => ?_) | refine uAk ?_ (hr' := hap _) | refine uMv ?_ | refine uAs ?_ | refine uO ?_ | (refine isBin ?_; first | refine uIb ?_ | refine uBb true ?_ | refine uP ?_ ) | (refine isLd ?_; first | refine uLp ?_ | refine uL1 ?_ | refine uL2 ?_ ) | (refine isFa ?_; first | refine uP ?_) | refine uX ?_ | refine uBs ?_ | refine uP ?_ | ((first | refine uGsN ?_ ?_ | refine uGs ?_ ?_) <;> intro hb)) | refine W_block ?_ | refine wT fun _ => ?_ )
        all_goals exact ⟨(k + 1, _, _, row ++ [r.1]), by dsimp only; omega, ⟨by dsimp only; omega, by dsimp only; rw [List.length_append, hrl]; rfl⟩, (by (repeat (first | exact sub_nil _ | refine sub_cons (by rfl) ?_))), (by (repeat (first | exact sub_nil _ | refine sub_cons (by rfl) ?_)))⟩
      · have hnx : fit.map encR ++ [encR row] = (fit ++ [row]).map encR := by rw [List.map_append]; rfl
        have hzf := sized_Rx fit
        have hflm : (fit.map encR).length = fit.length := List.length_map _
        repeat' (first | refine W_seq ?_ | refine W_region ?_ | ((first | refine RL_nil ?_ | refine W_exit ?_ ); (first | change W _ _ _ _ _ | change Exists _ )) | (refine isRL ?_; first | refine uAk ?_ (hr' := hnx) | refine uMv ?_ | refine uAs ?_ | (refine isBin ?_; first | refine uIb ?_ | refine uBb false ?_ ) | refine uBs ?_ ) | refine wF fun _ => ?_ )
        exact ⟨(i + 1, ov', wr', fit ++ [row]), by dsimp only; omega, ⟨by dsimp only; omega, by dsimp only; rw [List.length_append, hfl]; rfl, fun j q' r hq' hr => by
          dsimp only at hr
          by_cases hj : j < fit.length
          · rw [List.getElem?_append_left hj] at hr; exact hsh j q' r hq' hr
          · have hjl := (List.getElem?_eq_some_iff.1 hr).1
            rw [List.length_append, List.length_singleton] at hjl
            obtain rfl : j = fit.length := by omega
            rw [List.getElem?_append_right (Nat.le_refl _), Nat.sub_self] at hr
            injection hr with hr
            rw [hfl, hq] at hq'
            injection hq' with hq'
            rw [← hr, ← hq', hrn]; omega⟩, (by (repeat (first | exact sub_nil _ | refine sub_cons (by rfl) ?_))), (by (repeat (first | exact sub_nil _ | refine sub_cons (by rfl) ?_)))⟩
    · have hrn : rowN g q = g.nodes.length := if_neg k2
      repeat' (first | refine W_seq ?_ | refine W_region ?_ | ((first | refine RL_nil ?_ | refine W_skip ?_ ); (first | change W _ _ _ _ _ )) | (refine isRL ?_; first | refine uMv ?_ | refine uAs ?_ | (refine isBin ?_; first | refine uBb true ?_ | refine uBb false ?_ ) | (refine isLd ?_; first | refine uL1 ?_ | refine uL2 ?_ ) | (refine isCl ?_; first | refine uP ?_ ) | (refine isFa ?_; first | refine uP ?_) | refine uX ?_ | refine uBs ?_ ) | refine W_block ?_ | refine wT fun _ => ?_ | refine wF fun _ => ?_ )
      refine W_for (α := Nat × Bool × Bool × List Bool) (fun x => [(2, .one (.po 2 0)), (6, vL ((elems p).map encP)), (7, vB x.2.1), (8, vB x.2.2.1), (9, .one (.own 300 (fit.map encR))), (10, vI i), (11, .one (.own 26 (x.2.2.2.map encB))), (12, vI ((g.nodes.map encNd).length : Int)), (13, vI x.1)]) (fun _ => [(2, .box 25 [.sl (g.nodes.map encNd), .sl (g.edges.map encEd)]), (300, .tok 35 1), (26, .tok 4 1)]) (fun x => x.1 ≤ g.nodes.length ∧ x.2.2.2.length = x.1) (fun x => g.nodes.length - x.1) (0, ov, wr, []) ⟨Nat.zero_le _, rfl⟩ (by (repeat (first | exact sub_nil _ | refine sub_cons (by rfl) ?_))) (by (repeat (first | exact sub_nil _ | refine sub_cons (by rfl) ?_))) ?_
      rintro ⟨k, ov', wr', row⟩ ⟨hk, hrl⟩
      dsimp only at hk hrl ⊢
      have hzr := sized_Bx row
      have hrlm : (row.map encB).length = row.length := List.length_map _
      by_cases hkt : k < g.nodes.length
      · obtain ⟨x, hx⟩ : ∃ x, g.nodes[k]? = some x := ⟨_, List.getElem?_eq_getElem hkt⟩
        have hap : ∀ b : Bool, row.map encB ++ [encB b] = (row ++ [b]).map encB := fun b => by rw [List.map_append]; rfl
        repeat' (first | refine W_seq ?_ | refine W_region ?_ | ((first | refine RL_nil ?_ | refine W_skip ?_ ); (first | change W _ _ _ _ _ | change Exists _ )) | (refine isRL ?_; first | refine uNx (hF _ _) (fun r _ => ?_) | refine uAk ?_ (hr' := hap _) | refine uMv ?_ | refine uAs ?_ | refine uO ?_ | (refine isBin ?_; first | refine uIb ?_ | refine uBb true ?_ | refine uBb false ?_ | refine uP ?_ ) | (refine isLd ?_; first | refine uLp ?_ | refine uL1 ?_ | refine uL2 ?_ ) | (refine isFa ?_; first | refine uP ?_) | refine uX ?_ | refine uBs ?_ | refine uP ?_ | ((first | refine uGsN ?_ ?_ | refine uGs ?_ ?_) <;> intro hb)) | refine W_block ?_ | refine wT fun _ => ?_ | refine wF fun _ => ?_ )
        all_goals exact ⟨(k + 1, _, _, row ++ [r.1]), by dsimp only; omega, ⟨by dsimp only; omega, by dsimp only; rw [List.length_append, hrl]; rfl⟩, (by (repeat (first | exact sub_nil _ | refine sub_cons (by rfl) ?_))), (by (repeat (first | exact sub_nil _ | refine sub_cons (by rfl) ?_)))⟩
      · have hnx : fit.map encR ++ [encR row] = (fit ++ [row]).map encR := by rw [List.map_append]; rfl
        have hzf := sized_Rx fit
        have hflm : (fit.map encR).length = fit.length := List.length_map _
        repeat' (first | refine W_seq ?_ | refine W_region ?_ | ((first | refine RL_nil ?_ | refine W_exit ?_ ); (first | change W _ _ _ _ _ | change Exists _ )) | (refine isRL ?_; first | refine uAk ?_ (hr' := hnx) | refine uMv ?_ | refine uAs ?_ | (refine isBin ?_; first | refine uIb ?_ | refine uBb false ?_ ) | refine uBs ?_ ) | refine wF fun _ => ?_ )
        exact ⟨(i + 1, ov', wr', fit ++ [row]), by dsimp only; omega, ⟨by dsimp only; omega, by dsimp only; rw [List.length_append, hfl]; rfl, fun j q' r hq' hr => by
          dsimp only at hr
          by_cases hj : j < fit.length
          · rw [List.getElem?_append_left hj] at hr; exact hsh j q' r hq' hr
          · have hjl := (List.getElem?_eq_some_iff.1 hr).1
            rw [List.length_append, List.length_singleton] at hjl
            obtain rfl : j = fit.length := by omega
            rw [List.getElem?_append_right (Nat.le_refl _), Nat.sub_self] at hr
            injection hr with hr
            rw [hfl, hq] at hq'
            injection hq' with hq'
            rw [← hr, ← hq', hrn]; omega⟩, (by (repeat (first | exact sub_nil _ | refine sub_cons (by rfl) ?_))), (by (repeat (first | exact sub_nil _ | refine sub_cons (by rfl) ?_)))⟩
end Go.Proofs.YtjhkehloipmjfaaGreat
