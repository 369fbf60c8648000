/- Walks: sets, as the reference goes on with them. -/
import Derived.Test.YtjhkehloipmjfaaGreatQ3
import Derived.Test.YtjhkehloipmjfaaGreatQL
namespace Go.Proofs.YtjhkehloipmjfaaGreat
open Go.RowKit
theorem put_B (f : Nat → Bool) {n i : Nat} (hi : i < n) {b : Bool} (hb : f i = b) : ((setTo f n i).map encB).take (0 + ((i : Int)).toNat) ++ [[.v (.bool b)]] ++ ((setTo f n i).map encB).drop (0 + ((i : Int)).toNat + 1) = (setTo f n (i + 1)).map encB := by
  rw [upd_B b (by rw [set_len, Int.toNat_natCast]; exact hi), Int.toNat_natCast, ← hb, set_next f hi]
set_option maxRecDepth 100000 in
set_option maxHeartbeats 4000000 in
theorem rstays_v (m : Mach) (fit : List (List Bool)) (v : Mv) (node : Int) (hf : FitOk 1 m fit node) (he : elemOk m v) : CallsV Tryz.prog 38 [.dat (encA m), vL (fit.map encR), .dat (encMv v), vI node] (.val (vB (staysB m fit node v))) := by
  have h0 := hf.pos
  unfold encA encMv
  by_cases h1 : v.elem = -1
  · have e : staysB m fit node v = true := by unfold staysB; rw [h1]; rfl
    rw [e]
    (refine callsV_of_W (Ty := Ty) ty_ok Tryz.func38 rfl rfl rfl fun w0 S0 => ?_; simp only [argsF, List.zipIdx_cons, List.zipIdx_nil, List.map_cons, List.map_nil, Nat.zero_add])
    repeat' (first | refine W_seq ?_ | refine W_region ?_ | ((first | refine RL_nil ?_ | refine W_ret ?_); (first | change W _ _ _ _ _ | change EndQ _ _ _ _ _ _ )) | (refine isRL ?_; first | refine uMv ?_ | refine uAs ?_ | refine uO ?_ | (refine isBin ?_; first | refine uBb true ?_ ) | (refine isLd ?_; first | refine uL1 ?_ ) | (refine isFa ?_; first | refine uP ?_) | refine uP ?_ | refine uBx ?_ ))
    exact end_r (by rfl) rfl
  obtain ⟨p, q1, q5⟩ := he.get h1
  have e1 : staysB m fit node v = (p.kind == 1 && fitAt fit v.elem node) := by
    unfold staysB
    rw [q1, show (v.elem == -1) = false by simpa using h1]; rfl
  rw [e1]
  by_cases hk : p.kind = 1
  · obtain ⟨r, b, q2, q3, q4⟩ := hf.get q1 hk
    rw [q4, show (p.kind == 1) = true by simpa using hk]
    (refine callsV_of_W (Ty := Ty) ty_ok Tryz.func38 rfl rfl rfl fun w0 S0 => ?_; simp only [argsF, List.zipIdx_cons, List.zipIdx_nil, List.map_cons, List.map_nil, Nat.zero_add])
    repeat' (first | refine W_seq ?_ | refine W_region ?_ | ((first | refine RL_nil ?_ | refine W_ret ?_); (first | change W _ _ _ _ _ | change EndQ _ _ _ _ _ _ )) | (refine isRL ?_; first | refine uMv ?_ | refine uAs ?_ | (refine isBin ?_; first | refine uBb true ?_ | refine uBb false ?_ ) | (refine isLd ?_; first | refine uL1 ?_ | refine uL2 ?_ ) | (refine isFa ?_; first | refine uP ?_) | refine uX ?_ | refine uP ?_ | refine uBx ?_ ))
    exact end_r (by rfl) rfl
  · rw [show (p.kind == 1) = false by simpa using hk]
    (refine callsV_of_W (Ty := Ty) ty_ok Tryz.func38 rfl rfl rfl fun w0 S0 => ?_; simp only [argsF, List.zipIdx_cons, List.zipIdx_nil, List.map_cons, List.map_nil, Nat.zero_add])
    repeat' (first | refine W_seq ?_ | refine W_region ?_ | ((first | refine RL_nil ?_ | refine W_ret ?_); (first | change W _ _ _ _ _ | change EndQ _ _ _ _ _ _ )) | (refine isRL ?_; first | refine uMv ?_ | refine uAs ?_ | refine uO ?_ | (refine isBin ?_; first | refine uBb false ?_ ) | (refine isLd ?_; first | refine uL1 ?_ | refine uL2 ?_ ) | (refine isFa ?_; first | refine uP ?_) | refine uX ?_ | refine uP ?_ | refine uBx ?_ ))
    exact end_r (by rfl) rfl
set_option maxRecDepth 100000 in
set_option maxHeartbeats 16000000 in
theorem rclose_v (m : Mach) (n : Nat) (fit : List (List Bool)) (s : List Bool) (node : Int) (hm : MachOk m n) (hf : FitOk 1 m fit node) : CallsV Tryz.prog 15 [.dat (encA m), vL (fit.map encR), vL (s.map encB), vI node] (.own 4 1 ((closeB m.moves (staysB m fit node) (hasB s) n).map encB)) := by
  obtain ⟨hst, hn, hml, hL, hel⟩ := hm
  have hsl : (s.map encB).length = s.length := List.length_map _
  have hmm : (m.moves.map encMv).length = m.moves.length := List.length_map _
  have hS := fun (v : Mv) (hv : v ∈ m.moves) => rstays_v m fit v node hf (hel v hv)
  have hrep : List.replicate n [D.v (.bool false)] = (setTo (hasB s) n 0).map encB := by rw [set_zero, List.map_replicate]; rfl
  have hdone := rnds_done (st := staysB m fit node) (s := hasB s) hL
  unfold encA at hS ⊢
  rw [hst] at hS ⊢
  (refine callsV_of_W (Ty := Ty) ty_ok Tryz.func15 rfl rfl rfl fun w0 S0 => ?_; simp only [argsF, List.zipIdx_cons, List.zipIdx_nil, List.map_cons, List.map_nil, Nat.zero_add])
  repeat' (first | refine W_seq ?_ | refine W_region ?_ | ((first | refine RL_nil ?_ ); (first | change W _ _ _ _ _ )) | (refine isRL ?_; first | refine uMk n ?_ | refine uAs ?_ | (refine isLd ?_; first | refine uL1 ?_ ) | (refine isFa ?_; first | refine uP ?_) | refine uBx ?_ ) | refine W_block ?_ )
  rw [hrep]
  refine W_for (α := Nat) (fun i => [(1, vL (fit.map encR)), (2, vL (s.map encB)), (3, vI node), (4, .one (.po 4 0)), (9, .one (.win 17 0 n n 1)), (10, vI i)]) (fun i => [(4, .box 49 [.sl (m.elems.map encP), .sl (m.moves.map encMv), .v (.int .i64 (n : Int))]), (17, .arr 4 1 ((setTo (hasB s) n i).map encB))]) (fun i => i ≤ n ∧ i ≤ s.length) (fun i => n - i) 0 ⟨Nat.zero_le _, Nat.zero_le _⟩ (by (repeat (first | exact sub_nil _ | refine sub_cons (by rfl) ?_))) (by (repeat (first | exact sub_nil _ | refine sub_cons (by rfl) ?_))) ?_
  intro i ⟨hi, his⟩
  by_cases hlt : i < n ∧ i < s.length
  · obtain ⟨hlt, hls⟩ := hlt
    obtain ⟨b, hb⟩ : ∃ b, s[i]? = some b := ⟨_, List.getElem?_eq_getElem hls⟩
    have hp := put_B (hasB s) hlt (hasB_get hb)
    have hl1 : 0 + ((i : Int)).toNat < ((setTo (hasB s) n i).map encB).length := by rw [List.length_map, set_len, Nat.zero_add, Int.toNat_natCast]; exact hlt
    repeat' (first | refine W_seq ?_ | refine W_region ?_ | ((first | refine RL_nil ?_ | refine W_skip ?_ ); (first | change W _ _ _ _ _ | change Exists _ )) | (refine isRL ?_; first | refine uWix ?_ | refine uPev _ ?_ (hrows := hp) (hm := hl1) | refine uMv ?_ | refine uAs ?_ | (refine isBin ?_; first | refine uIb ?_ | refine uBb true ?_ ) | (refine isLd ?_; first | refine uL1 ?_ | refine uL2 ?_ ) | (refine isCl ?_; first | refine uP ?_) | (refine isFa ?_; first | refine uP ?_) | refine uX ?_ | refine uP ?_ ) | refine W_block ?_ | refine wT fun _ => ?_ )
    exact ⟨i + 1, by omega, by omega, (by (repeat (first | exact sub_nil _ | refine sub_cons (by rfl) ?_))), (by (repeat (first | exact sub_nil _ | refine sub_cons (by rfl) ?_)))⟩
  have hfull : setTo (hasB s) n i = rnds m.moves (staysB m fit node) (setTo (hasB s) n n) 0 := by
    show _ = setTo (hasB s) n n
    by_cases h : i < n
    · refine set_more _ fun j hj _ => ?_
      have : s.length ≤ j := by omega
      unfold hasB; rw [List.getElem?_eq_none this]; rfl
    · rw [show i = n by omega]
  rw [hfull]
  have hor : (i < n ∧ ¬ i < s.length) ∨ ¬ i < n := by omega
  rcases hor with ⟨h1, h2⟩ | h1
  all_goals
    repeat' (first | refine W_seq ?_ | refine W_region ?_ | ((first | refine RL_nil ?_ | refine W_exit ?_ ); (first | change W _ _ _ _ _ )) | (refine isRL ?_; first | refine uMv ?_ | refine uAs ?_ | refine uO ?_ | (refine isBin ?_; first | refine uBb true ?_ | refine uBb false ?_ ) | (refine isLd ?_; first | refine uL1 ?_ ) | (refine isCl ?_; first | refine uP ?_) | (refine isFa ?_; first | refine uP ?_) | refine uP ?_ ) | refine W_block ?_ | refine wF fun _ => ?_ )
    refine W_for (α := Nat) (fun k => [(1, vL (fit.map encR)), (3, vI node), (4, .one (.po 4 0)), (9, .one (.win 17 0 n n 1)), (11, vI k)]) (fun k => [(4, .box 49 [.sl (m.elems.map encP), .sl (m.moves.map encMv), .v (.int .i64 (n : Int))]), (17, .arr 4 1 ((rnds m.moves (staysB m fit node) (setTo (hasB s) n n) k).map encB))]) (fun k => k ≤ n) (fun k => n - k) 0 (Nat.zero_le _) (by (repeat (first | exact sub_nil _ | refine sub_cons (by rfl) ?_))) (by (repeat (first | exact sub_nil _ | refine sub_cons (by rfl) ?_))) ?_
    intro k hk
    have hol : (rnds m.moves (staysB m fit node) (setTo (hasB s) n n) k).length = n := by rw [rnds_len, set_len]
    by_cases hkt : k < n
    · have hnk : rnds m.moves (staysB m fit node) (setTo (hasB s) n n) (k + 1) = m.moves.foldl (rndStep (staysB m fit node)) (rnds m.moves (staysB m fit node) (setTo (hasB s) n n) k) := rfl
      generalize rnds m.moves (staysB m fit node) (setTo (hasB s) n n) k = out at hol hnk ⊢
      repeat' (first | refine W_seq ?_ | refine W_region ?_ | ((first | refine RL_nil ?_ | refine W_skip ?_ ); (first | change W _ _ _ _ _ )) | (refine isRL ?_; first | refine uMv ?_ | refine uAs ?_ | (refine isBin ?_; first | refine uBb true ?_ ) | (refine isLd ?_; first | refine uL1 ?_ ) | (refine isFa ?_; first | refine uP ?_) ) | refine W_block ?_ | refine wT fun _ => ?_ )
      refine W_for (α := Nat) (fun i => [(1, vL (fit.map encR)), (3, vI node), (4, .one (.po 4 0)), (9, .one (.win 17 0 n n 1)), (11, vI k), (12, vI i)]) (fun i => [(4, .box 49 [.sl (m.elems.map encP), .sl (m.moves.map encMv), .v (.int .i64 (n : Int))]), (17, .arr 4 1 (((m.moves.take i).foldl (rndStep (staysB m fit node)) out).map encB))]) (fun i => i ≤ m.moves.length) (fun i => m.moves.length - i) 0 (Nat.zero_le _) (by (repeat (first | exact sub_nil _ | refine sub_cons (by rfl) ?_))) (by (repeat (first | exact sub_nil _ | refine sub_cons (by rfl) ?_))) ?_
      intro i hi
      have hln : ((m.moves.take i).foldl (rndStep (staysB m fit node)) out).length = n := by rw [rndFold_len]; exact hol
      by_cases hit : i < m.moves.length
      · obtain ⟨v, hv⟩ : ∃ v, m.moves[i]? = some v := ⟨_, List.getElem?_eq_getElem hit⟩
        have hvm := List.mem_of_getElem? hv
        have hnx : (m.moves.take (i + 1)).foldl (rndStep (staysB m fit node)) out = rndStep (staysB m fit node) ((m.moves.take i).foldl (rndStep (staysB m fit node)) out) v := foldl_next hv
        obtain ⟨b1, b2, b3, b4⟩ := hL v hvm
        have hSv := hS v hvm
        unfold encMv at hSv
        generalize ((m.moves.take i).foldl (rndStep (staysB m fit node)) out) = o2 at hln hnx ⊢
        have hu := upd_B (l := o2) (k := v.dst.toNat) true (by omega)
        obtain ⟨b, hb⟩ : ∃ b, o2[v.src.toNat]? = some b := ⟨_, List.getElem?_eq_getElem (by omega)⟩
        have hbb : (o2.map encB)[0 + v.src.toNat]? = some [.v (.bool b)] := by rw [Nat.zero_add, List.getElem?_map, hb]; rfl
        have hhas := hasB_get hb
        cases b with
        | false =>
          rw [show rndStep (staysB m fit node) o2 v = o2 by unfold rndStep; rw [hhas]; rfl] at hnx
          repeat' (first | refine W_seq ?_ | refine W_region ?_ | ((first | refine RL_nil ?_ | refine W_skip ?_ ); (first | change W _ _ _ _ _ | change Exists _ )) | (refine isRL ?_; first | refine uWix ?_ | refine uPelv _ ?_ hbb | refine uMv ?_ | refine uAs ?_ | refine uO ?_ | (refine isBin ?_; first | refine uIb ?_ | refine uBb true ?_ ) | (refine isLd ?_; first | refine uLp ?_ | refine uLb ?_ | refine uL1 ?_ ) | (refine isCl ?_; first | refine uC (hSv) ?_ | refine uP ?_) | (refine isFa ?_; first | refine uP ?_) | (refine isSt ?_; first | refine uSw ?_ ) | refine uX ?_ | refine uP ?_ | refine uN ?_ ) | refine W_block ?_ | refine wT fun _ => ?_ | refine wF fun _ => ?_ )
          exact ⟨i + 1, by omega, by omega, (by (repeat (first | exact sub_nil _ | refine sub_cons (by rfl) ?_))), (by simp only [hnx]; (repeat (first | exact sub_nil _ | refine sub_cons (by rfl) ?_)))⟩
        | true =>
          cases hst2 : staysB m fit node v with
          | false =>
            rw [hst2] at hSv
            rw [show rndStep (staysB m fit node) o2 v = o2 by unfold rndStep; rw [hhas, hst2]; rfl] at hnx
            repeat' (first | refine W_seq ?_ | refine W_region ?_ | ((first | refine RL_nil ?_ | refine W_skip ?_ ); (first | change W _ _ _ _ _ | change Exists _ )) | (refine isRL ?_; first | refine uWix ?_ | refine uPelv _ ?_ hbb | refine uMv ?_ | refine uAs ?_ | (refine isBin ?_; first | refine uIb ?_ | refine uBb true ?_ ) | (refine isLd ?_; first | refine uLp ?_ | refine uLb ?_ | refine uL1 ?_ ) | (refine isCl ?_; first | refine uC (hSv) ?_ | refine uP ?_) | (refine isFa ?_; first | refine uP ?_) | (refine isSt ?_; first | refine uSw ?_ ) | refine uX ?_ | refine uP ?_ | refine uN ?_ ) | refine W_block ?_ | refine wT fun _ => ?_ | refine wF fun _ => ?_ )
            exact ⟨i + 1, by omega, by omega, (by (repeat (first | exact sub_nil _ | refine sub_cons (by rfl) ?_))), (by simp only [hnx]; (repeat (first | exact sub_nil _ | refine sub_cons (by rfl) ?_)))⟩
          | true =>
            rw [hst2] at hSv
            rw [show rndStep (staysB m fit node) o2 v = o2.set v.dst.toNat true by unfold rndStep; rw [hhas, hst2]; rfl] at hnx
            repeat' (first | refine W_seq ?_ | refine W_region ?_ | ((first | refine RL_nil ?_ | refine W_skip ?_ ); (first | change W _ _ _ _ _ | change Exists _ )) | (refine isRL ?_; first | refine uWix ?_ | refine uPelv _ ?_ hbb | refine uPev _ ?_ (hrows := hu) (hm := by rw [List.length_map]; omega) | refine uMv ?_ | refine uAs ?_ | (refine isBin ?_; first | refine uIb ?_ | refine uBb true ?_ ) | (refine isLd ?_; first | refine uLp ?_ | refine uLb ?_ | refine uL1 ?_ ) | (refine isCl ?_; first | refine uC (hSv) ?_ | refine uP ?_) | (refine isFa ?_; first | refine uP ?_) | (refine isSt ?_; first | refine uSw ?_ ) | refine uX ?_ | refine uP ?_ | refine uN ?_ ) | refine W_block ?_ | refine wT fun _ => ?_ )
            exact ⟨i + 1, by omega, by omega, (by (repeat (first | exact sub_nil _ | refine sub_cons (by rfl) ?_))), (by simp only [hnx]; (repeat (first | exact sub_nil _ | refine sub_cons (by rfl) ?_)))⟩
      · obtain rfl : i = m.moves.length := by omega
        rw [List.take_length, ← hnk]
        repeat' (first | refine W_seq ?_ | refine W_region ?_ | ((first | refine RL_nil ?_ | refine W_exit ?_ ); (first | change W _ _ _ _ _ | change Exists _ )) | (refine isRL ?_; first | refine uMv ?_ | refine uAs ?_ | (refine isBin ?_; first | refine uIb ?_ | refine uBb false ?_ ) | (refine isLd ?_; first | refine uL1 ?_ ) | (refine isCl ?_; first | refine uP ?_) | (refine isFa ?_; first | refine uP ?_) ) | refine wF fun _ => ?_ )
        exact ⟨k + 1, by omega, by omega, (by (repeat (first | exact sub_nil _ | refine sub_cons (by rfl) ?_))), (by (repeat (first | exact sub_nil _ | refine sub_cons (by rfl) ?_)))⟩
    · obtain rfl : n = k := by omega
      rw [hdone] at hol ⊢
      iterate 15 (first | refine W_seq ?_ | refine W_region ?_ | ((first | refine RL_nil ?_ | refine W_exit ?_ ); (first | change W _ _ _ _ _ )) | (refine isRL ?_; first | refine uMv ?_ | refine uAs ?_ | (refine isBin ?_; first | refine uBb false ?_ ) | (refine isLd ?_; first | refine uL1 ?_ ) | (refine isFa ?_; first | refine uP ?_) ) | refine wF fun _ => ?_ )
      refine uArrTok (n := n) (rows := (closeB m.moves (staysB m fit node) (hasB s) n).map encB) 8 17 ?_ (by rw [List.length_map]; exact hol.symm) (by rw [List.length_map]; omega)
      repeat' (first | ((first | refine W_ret ?_); (first | change EndQ _ _ _ _ _ _ )) )
      exact end_ro (by rfl) (by rfl) rfl
set_option maxRecDepth 100000 in
set_option maxHeartbeats 16000000 in
theorem rgo_v (m : Mach) (n : Nat) (fit : List (List Bool)) (s : List Bool) (edge along top : Int) (hm : MachOk m n) (hf : FitOk 2 m fit edge) (hf2 : FitOk 1 m fit top) : CallsV Tryz.prog 17 [.dat (encA m), vL (fit.map encR), vL (s.map encB), vI edge, vI along, vI top] (.own 4 1 ((closeB m.moves (staysB m fit top) (hasB (goF m.moves (goesB m fit edge along) (hasB s) n)) n).map encB)) := by
  have hC := fun (s : List Bool) => rclose_v m n fit s top hm hf2
  have h0 := hf.pos
  obtain ⟨hst, hn, hml, hL, hel⟩ := hm
  have hsl : (s.map encB).length = s.length := List.length_map _
  have hmm : (m.moves.map encMv).length = m.moves.length := List.length_map _
  have hrep : List.replicate n [D.v (.bool false)] = (List.replicate n false).map encB := by rw [List.map_replicate]; rfl
  unfold encA at hC ⊢
  rw [hst] at hC ⊢
  (refine callsV_of_W (Ty := Ty) ty_ok Tryz.func17 rfl rfl rfl fun w0 S0 => ?_; simp only [argsF, List.zipIdx_cons, List.zipIdx_nil, List.map_cons, List.map_nil, Nat.zero_add])
  repeat' (first | refine W_seq ?_ | refine W_region ?_ | ((first | refine RL_nil ?_ ); (first | change W _ _ _ _ _ )) | (refine isRL ?_; first | refine uMk n ?_ | refine uAs ?_ | (refine isLd ?_; first | refine uL1 ?_ ) | (refine isFa ?_; first | refine uP ?_) | refine uBx ?_ ) | refine W_block ?_ )
  rw [hrep]
  refine W_for (α := Nat) (fun i => [(1, vL (fit.map encR)), (2, vL (s.map encB)), (3, vI edge), (4, vI along), (5, vI top), (6, .one (.po 6 0)), (13, .one (.win 18 0 n n 1)), (14, vI i)]) (fun i => [(6, .box 49 [.sl (m.elems.map encP), .sl (m.moves.map encMv), .v (.int .i64 (n : Int))]), (18, .arr 4 1 (((m.moves.take i).foldl (goStep (goesB m fit edge along) (hasB s)) (List.replicate n false)).map encB))]) (fun i => i ≤ m.moves.length) (fun i => m.moves.length - i) 0 (Nat.zero_le _) (by (repeat (first | exact sub_nil _ | refine sub_cons (by rfl) ?_))) (by (repeat (first | exact sub_nil _ | refine sub_cons (by rfl) ?_))) ?_
  intro i hi
  have hln : ((m.moves.take i).foldl (goStep (goesB m fit edge along) (hasB s)) (List.replicate n false)).length = n := by rw [goFold_len]; simp
  by_cases hlt : i < m.moves.length
  · obtain ⟨v, hv⟩ : ∃ v, m.moves[i]? = some v := ⟨_, List.getElem?_eq_getElem hlt⟩
    have hvm := List.mem_of_getElem? hv
    have hnx : (m.moves.take (i + 1)).foldl (goStep (goesB m fit edge along) (hasB s)) (List.replicate n false) = goStep (goesB m fit edge along) (hasB s) ((m.moves.take i).foldl (goStep (goesB m fit edge along) (hasB s)) (List.replicate n false)) v := foldl_next hv
    obtain ⟨b1, b2, b3, b4⟩ := hL v hvm
    have hev := hel v hvm
    generalize ((m.moves.take i).foldl (goStep (goesB m fit edge along) (hasB s)) (List.replicate n false)) = out at hln hnx ⊢
    have hu := upd_B (l := out) (k := v.dst.toNat) true (by omega)
    have hno : goStep (goesB m fit edge along) (hasB s) out v = out → (m.moves.take (i + 1)).foldl (goStep (goesB m fit edge along) (hasB s)) (List.replicate n false) = out := fun h => hnx.trans h
    by_cases h1 : v.elem = -1
    · have hnx := hno (by unfold goStep goesB; rw [h1]; split <;> rfl)
      repeat' (first | refine W_seq ?_ | refine W_region ?_ | ((first | refine RL_nil ?_ | refine W_skip ?_ ); (first | change W _ _ _ _ _ | change Exists _ )) | (refine isRL ?_; first | refine uMv ?_ | refine uAs ?_ | refine uO ?_ | (refine isBin ?_; first | refine uIb ?_ | refine uBb true ?_ | refine uBb false ?_ ) | (refine isLd ?_; first | refine uLp ?_ | refine uL1 ?_ ) | (refine isCl ?_; first | refine uP ?_) | (refine isFa ?_; first | refine uP ?_) | (refine isSt ?_; first | refine uSw ?_ ) | refine uX ?_ | refine uP ?_ | refine uN ?_ ) | refine W_block ?_ | refine wT fun _ => ?_ | refine wF fun _ => ?_ )
      exact ⟨i + 1, by omega, by omega, (by (repeat (first | exact sub_nil _ | refine sub_cons (by rfl) ?_))), (by simp only [hnx]; (repeat (first | exact sub_nil _ | refine sub_cons (by rfl) ?_)))⟩
    obtain ⟨p, q1, q5⟩ := hev.get h1
    by_cases hs1 : v.src < (s.length : Int)
    rotate_left
    · have hnx := hno (by unfold goStep; rw [show hasB s v.src.toNat = false by unfold hasB; rw [List.getElem?_eq_none (by omega)]; rfl]; rfl)
      repeat' (first | refine W_seq ?_ | refine W_region ?_ | ((first | refine RL_nil ?_ | refine W_skip ?_ ); (first | change W _ _ _ _ _ | change Exists _ )) | (refine isRL ?_; first | refine uMv ?_ | refine uAs ?_ | refine uO ?_ | (refine isBin ?_; first | refine uIb ?_ | refine uBb true ?_ | refine uBb false ?_ ) | (refine isLd ?_; first | refine uLp ?_ | refine uL1 ?_ ) | (refine isCl ?_; first | refine uP ?_) | (refine isFa ?_; first | refine uP ?_) | (refine isSt ?_; first | refine uSw ?_ ) | refine uX ?_ | refine uP ?_ | refine uN ?_ ) | refine W_block ?_ | refine wT fun _ => ?_ | refine wF fun _ => ?_ )
      exact ⟨i + 1, by omega, by omega, (by (repeat (first | exact sub_nil _ | refine sub_cons (by rfl) ?_))), (by simp only [hnx]; (repeat (first | exact sub_nil _ | refine sub_cons (by rfl) ?_)))⟩
    obtain ⟨b, hb⟩ : ∃ b, s[v.src.toNat]? = some b := ⟨_, List.getElem?_eq_getElem (by omega)⟩
    have hhas := hasB_get hb
    have e1 : goesB m fit edge along v = (p.kind == 2 && fitAt fit v.elem edge && ((IntKind.i64.wrap ((BitVec.ofInt IntKind.i64.bits p.dir &&& BitVec.ofInt IntKind.i64.bits along).toNat : Nat)) != 0)) := by
      unfold goesB
      rw [q1, show (v.elem != -1) = true by simpa using h1]; rfl
    cases b with
    | false =>
      have hnx := hno (by unfold goStep; rw [hhas]; rfl)
      repeat' (first | refine W_seq ?_ | refine W_region ?_ | ((first | refine RL_nil ?_ | refine W_skip ?_ ); (first | change W _ _ _ _ _ | change Exists _ )) | (refine isRL ?_; first | refine uMv ?_ | refine uAs ?_ | refine uO ?_ | (refine isBin ?_; first | refine uIb ?_ | refine uBb true ?_ ) | (refine isLd ?_; first | refine uLp ?_ | refine uL1 ?_ | refine uL2 ?_ ) | (refine isCl ?_; first | refine uP ?_) | (refine isFa ?_; first | refine uP ?_) | (refine isSt ?_; first | refine uSw ?_ ) | refine uX ?_ | refine uP ?_ | refine uN ?_ ) | refine W_block ?_ | refine wT fun _ => ?_ | refine wF fun _ => ?_ )
      exact ⟨i + 1, by omega, by omega, (by (repeat (first | exact sub_nil _ | refine sub_cons (by rfl) ?_))), (by simp only [hnx]; (repeat (first | exact sub_nil _ | refine sub_cons (by rfl) ?_)))⟩
    | true =>
      by_cases hk : p.kind = 2
      rotate_left
      · have hnx := hno (by unfold goStep; rw [hhas, e1, show (p.kind == 2) = false by simpa using hk]; rfl)
        repeat' (first | refine W_seq ?_ | refine W_region ?_ | ((first | refine RL_nil ?_ | refine W_skip ?_ ); (first | change W _ _ _ _ _ | change Exists _ )) | (refine isRL ?_; first | refine uMv ?_ | refine uAs ?_ | refine uO ?_ | (refine isBin ?_; first | refine uIb ?_ | refine uBb true ?_ | refine uBb false ?_ ) | (refine isLd ?_; first | refine uLp ?_ | refine uL1 ?_ | refine uL2 ?_ ) | (refine isCl ?_; first | refine uP ?_) | (refine isFa ?_; first | refine uP ?_) | (refine isSt ?_; first | refine uSw ?_ ) | refine uX ?_ | refine uP ?_ | refine uN ?_ ) | refine W_block ?_ | refine wT fun _ => ?_ | refine wF fun _ => ?_ )
        exact ⟨i + 1, by omega, by omega, (by (repeat (first | exact sub_nil _ | refine sub_cons (by rfl) ?_))), (by simp only [hnx]; (repeat (first | exact sub_nil _ | refine sub_cons (by rfl) ?_)))⟩
      obtain ⟨r, b, q2, q3, q4⟩ := hf.get q1 hk
      rw [q4, show (p.kind == 2) = true by simpa using hk] at e1
      cases b with
      | false =>
        have hnx := hno (by unfold goStep; rw [hhas, e1]; rfl)
        repeat' (first | refine W_seq ?_ | refine W_region ?_ | ((first | refine RL_nil ?_ | refine W_skip ?_ ); (first | change W _ _ _ _ _ | change Exists _ )) | (refine isRL ?_; first | refine uMv ?_ | refine uAs ?_ | refine uO ?_ | (refine isBin ?_; first | refine uIb ?_ | refine uBb true ?_ ) | (refine isLd ?_; first | refine uLp ?_ | refine uL1 ?_ | refine uL2 ?_ ) | (refine isCl ?_; first | refine uP ?_) | (refine isFa ?_; first | refine uP ?_) | (refine isSt ?_; first | refine uSw ?_ ) | refine uX ?_ | refine uP ?_ | refine uN ?_ ) | refine W_block ?_ | refine wT fun _ => ?_ | refine wF fun _ => ?_ )
        exact ⟨i + 1, by omega, by omega, (by (repeat (first | exact sub_nil _ | refine sub_cons (by rfl) ?_))), (by simp only [hnx]; (repeat (first | exact sub_nil _ | refine sub_cons (by rfl) ?_)))⟩
      | true =>
        by_cases hd : (IntKind.i64.wrap ((BitVec.ofInt IntKind.i64.bits p.dir &&& BitVec.ofInt IntKind.i64.bits along).toNat : Nat)) = 0
        · have hnx := hno (by unfold goStep; rw [hhas, e1, hd]; rfl)
          have hdn : ((IntKind.i64.wrap ((BitVec.ofInt IntKind.i64.bits p.dir &&& BitVec.ofInt IntKind.i64.bits along).toNat : Nat)) != 0) = false := by rw [hd]; rfl
          repeat' (first | refine W_seq ?_ | refine W_region ?_ | ((first | refine RL_nil ?_ | refine W_skip ?_ ); (first | change W _ _ _ _ _ | change Exists _ )) | (refine isRL ?_; first | refine uMv ?_ | refine uAs ?_ | (refine isBin ?_; first | refine uIb ?_ | refine uBb true ?_ | refine uBb false ?_ | refine uP ?_) | (refine isLd ?_; first | refine uLp ?_ | refine uL1 ?_ | refine uL2 ?_ ) | (refine isCl ?_; first | refine uP ?_) | (refine isFa ?_; first | refine uP ?_) | (refine isSt ?_; first | refine uSw ?_ ) | refine uX ?_ | refine uP ?_ | refine uN ?_ ) | refine W_block ?_ | refine wT fun _ => ?_ | refine wF fun _ => ?_ )
          exact ⟨i + 1, by omega, by omega, (by (repeat (first | exact sub_nil _ | refine sub_cons (by rfl) ?_))), (by simp only [hnx]; (repeat (first | exact sub_nil _ | refine sub_cons (by rfl) ?_)))⟩
        · have hdn : ((IntKind.i64.wrap ((BitVec.ofInt IntKind.i64.bits p.dir &&& BitVec.ofInt IntKind.i64.bits along).toNat : Nat)) != 0) = true := by simpa using hd
          have hnx := hnx.trans (show goStep (goesB m fit edge along) (hasB s) out v = out.set v.dst.toNat true by unfold goStep; rw [hhas, e1, hdn]; rfl)
          repeat' (first | refine W_seq ?_ | refine W_region ?_ | ((first | refine RL_nil ?_ | refine W_skip ?_ ); (first | change W _ _ _ _ _ | change Exists _ )) | (refine isRL ?_; first | refine uWix ?_ | refine uPev _ ?_ (hrows := hu) (hm := by rw [List.length_map]; omega) | refine uMv ?_ | refine uAs ?_ | (refine isBin ?_; first | refine uIb ?_ | refine uBb true ?_ | refine uP ?_) | (refine isLd ?_; first | refine uLp ?_ | refine uL1 ?_ | refine uL2 ?_ ) | (refine isCl ?_; first | refine uP ?_) | (refine isFa ?_; first | refine uP ?_) | (refine isSt ?_; first | refine uSw ?_ ) | refine uX ?_ | refine uP ?_ | refine uN ?_ ) | refine W_block ?_ | refine wT fun _ => ?_ )
          exact ⟨i + 1, by omega, by omega, (by (repeat (first | exact sub_nil _ | refine sub_cons (by rfl) ?_))), (by simp only [hnx]; (repeat (first | exact sub_nil _ | refine sub_cons (by rfl) ?_)))⟩
  · obtain rfl : i = m.moves.length := by omega
    rw [List.take_length] at hln ⊢
    have hCg := hC (m.moves.foldl (goStep (goesB m fit edge along) (hasB s)) (List.replicate n false))
    have e : goF m.moves (goesB m fit edge along) (hasB s) n = m.moves.foldl (goStep (goesB m fit edge along) (hasB s)) (List.replicate n false) := rfl
    rw [e]
    generalize m.moves.foldl (goStep (goesB m fit edge along) (hasB s)) (List.replicate n false) = out at hCg hln ⊢
    iterate 10 (first | refine W_seq ?_ | refine W_region ?_ | ((first | refine RL_nil ?_ ); (first | change W _ _ _ _ _ )) | (refine isRL ?_; first | refine uMv ?_ | (refine isBin ?_; first | refine uBb false ?_ ) | (refine isLd ?_; first | refine uL1 ?_ ) | (refine isCl ?_; first | refine uP ?_) | (refine isFa ?_; first | refine uP ?_) ) | refine wF fun _ => ?_ )
    refine uArrTok (n := n) (rows := out.map encB) 13 18 ?_ (by rw [List.length_map]; exact hln.symm) (by rw [List.length_map]; omega)
    repeat' (first | refine W_seq ?_ | refine W_region ?_ | ((first | refine RL_nil ?_ | refine W_exit ?_ | refine W_ret ?_); (first | change W _ _ _ _ _ | change EndQ _ _ _ _ _ _ )) | (refine isRL ?_; first | refine uMv ?_ | refine uAs ?_ | (refine isLd ?_; first | refine uLb ?_ ) | (refine isCl ?_; first | refine uCO (hCg) ?_ ) ) )
    exact end_ro (by rfl) (by rfl) rfl
end Go.Proofs.YtjhkehloipmjfaaGreat
