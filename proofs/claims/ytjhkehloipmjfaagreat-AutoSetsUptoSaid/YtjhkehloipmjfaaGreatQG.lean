/- Walks: how many pieces; elements; plain patterns. -/
import Derived.Test.YtjhkehloipmjfaaGreatQL
import Derived.Test.YtjhkehloipmjfaaGreatG1
import Derived.Test.YtjhkehloipmjfaaGreatG3
import Derived.Test.YtjhkehloipmjfaaGreatQI
import Derived.Test.YtjhkehloipmjfaaGreatVH
import Derived.Test.YtjhkehloipmjfaaGreatMB
namespace Go.Proofs.YtjhkehloipmjfaaGreat
open Go.RowKit
/-! ### pieces -/
theorem size_step (A s t : Nat) (ht : 1 ≤ t) : min (min (1 + A) 401 + (min s 401 + 1) * t) 401 = min (1 + (A + (s + 1) * t)) 401 := by
  by_cases h : s ≤ 401
  · rw [Nat.min_eq_left h]; omega
  · rw [Nat.min_eq_right (show 401 ≤ s by omega)]
    have h1 : 402 * 1 ≤ 402 * t := Nat.mul_le_mul_left _ ht
    have h2 : 402 * t ≤ (s + 1) * t := Nat.mul_le_mul_right _ (by omega)
    rw [show 401 + 1 = 402 from rfl]
    omega
theorem size_step' (A s : Nat) : min (min (1 + A) 401 + min s 401) 401 = min (1 + (A + s)) 401 := by omega
theorem min_i (a : Int) (n : Nat) (h : a = n) : (if (401 : Int) < a then (401 : Int) else a) = ((min n 401 : Nat) : Int) := by
  subst h; split <;> omega
def wP (p k : Pt) : Nat := if p.kind = 5 then (sizeN k + 1) * timesP p else sizeN k
theorem sizeN_w (p : Pt) : sizeN p = 1 + (p.kids.map (wP p)).sum := by rw [sizeN_eq]; rfl
theorem sum_next {p q : Pt} {k : Nat} (hq : p.kids[k]? = some q) : ((p.kids.take (k + 1)).map (wP p)).sum = ((p.kids.take k).map (wP p)).sum + wP p q := by
  rw [List.take_add_one, hq, Option.toList_some, List.map_append, List.sum_append]; simp
set_option maxRecDepth 100000 in
set_option maxHeartbeats 4000000 in
theorem size_v : ∀ p : Pt, rightP p = true → CallsV Tryz.prog 29 [.dat (encP p)] (.val (vI ((min (sizeN p) 401 : Nat) : Int))) := Pt.ind fun p ih h => by
  have hr := right_kids h
  have hlm : (p.kids.map encP).length = p.kids.length := List.length_map _
  (refine callsV_of_W (Ty := Ty) ty_ok Tryz.func29 rfl rfl rfl fun w0 S0 => ?_; simp only [argsF, List.zipIdx_cons, List.zipIdx_nil, List.map_cons, List.map_nil, Nat.zero_add])
  repeat (first | refine W_seq ?_ | refine W_region ?_ | ((first | refine RL_nil ?_ ); (first | change W _ _ _ _ _ )) | (refine isRL ?_; first | refine uMv ?_ | refine uAs ?_ | (refine isLd ?_; first | refine uL1 ?_ ) | (refine isCl ?_; first | refine uP ?_) | (refine isFa ?_; first | refine uP ?_) | refine uBx ?_ ) | refine W_block ?_ )
  refine W_for (α := Nat) (fun k => [(1, .one (.po 1 0)), (3, vI ((min (1 + ((p.kids.take k).map (wP p)).sum) 401 : Nat) : Int)), (9, vL (p.kids.map encP)), (10, vI ((p.kids.map encP).length : Int)), (11, vI k)]) (fun _ => [(1, .box 34 (encP p))]) (fun k => k ≤ p.kids.length) (fun k => p.kids.length - k) 0 (Nat.zero_le _) (by (repeat (first | exact sub_nil _ | refine sub_cons (by rfl) ?_))) (by (repeat (first | exact sub_nil _ | refine sub_cons (by rfl) ?_))) ?_
  intro k hk
  refine W_limV (t := 9) rfl rfl fun hlim => ?_
  by_cases hlt : k < p.kids.length
  · obtain ⟨q, hq⟩ : ∃ q, p.kids[k]? = some q := ⟨_, List.getElem?_eq_getElem hlt⟩
    have hQ := ih q (List.mem_of_getElem? hq) (hr q (List.mem_of_getElem? hq))
    have hnx := sum_next hq
    by_cases k5 : p.kind = 5
    · obtain ⟨_, h1, h2, h3⟩ := right_quant h k5
      have hw : wP p q = (sizeN q + 1) * timesP p := by unfold wP; rw [if_pos k5]
      by_cases hm : p.max < 0
      · have ht : timesP p = (p.min + 1).toNat := by unfold timesP; rw [if_pos hm]
        have e1 : (((min (sizeN q) 401 : Nat) : Int) + 1) * (p.min + 1) = (((min (sizeN q) 401 + 1) * timesP p : Nat) : Int) := by
          rw [Int.natCast_mul, ht, Int.toNat_of_nonneg (by omega)]; rfl
        have hmul : (min (sizeN q) 401 + 1) * timesP p ≤ 402 * 21 := Nat.mul_le_mul (by omega) (by omega)
        have e2 : -9223372036854775808 ≤ (((min (sizeN q) 401 : Nat) : Int) + 1) * (p.min + 1) ∧ (((min (sizeN q) 401 : Nat) : Int) + 1) * (p.min + 1) ≤ 100000 := by rw [e1]; omega
        obtain ⟨e3, e4⟩ := e2
        repeat (first | refine W_seq ?_ | refine W_region ?_ | ((first | refine RL_nil ?_ | refine W_skip ?_ ); (first | change W _ _ _ _ _ | change Exists _ )) | (refine isRL ?_; first | refine uMv ?_ | refine uAs ?_ | (refine isBin ?_; first | refine uIb ?_ | refine uBb true ?_ ) | (refine isLd ?_; first | refine uLp ?_ | refine uLb ?_ | refine uL1 ?_ ) | (refine isCl ?_; first | refine uC (hQ) ?_ | refine uP ?_) | (refine isFa ?_; first | refine uP ?_) | (refine isSt ?_; first | refine uSw ?_ ) | refine uX ?_ | refine uN ?_) | refine W_block ?_ | refine wT fun _ => ?_ )
        rw [min_i _ (min (1 + ((p.kids.take k).map (wP p)).sum) 401 + (min (sizeN q) 401 + 1) * timesP p) (by rw [e1]; rfl), size_step _ _ _ (by omega), ← hw, ← hnx]
        exact ⟨k + 1, by omega, hlt, (by (repeat (first | exact sub_nil _ | refine sub_cons (by rfl) ?_))), (by (repeat (first | exact sub_nil _ | refine sub_cons (by rfl) ?_)))⟩
      · have ht : timesP p = p.max.toNat := by unfold timesP; rw [if_neg hm]
        have e1 : (((min (sizeN q) 401 : Nat) : Int) + 1) * p.max = (((min (sizeN q) 401 + 1) * timesP p : Nat) : Int) := by
          rw [Int.natCast_mul, ht, Int.toNat_of_nonneg (by omega)]; rfl
        have hmul : (min (sizeN q) 401 + 1) * timesP p ≤ 402 * 21 := Nat.mul_le_mul (by omega) (by omega)
        have e2 : -9223372036854775808 ≤ (((min (sizeN q) 401 : Nat) : Int) + 1) * p.max ∧ (((min (sizeN q) 401 : Nat) : Int) + 1) * p.max ≤ 100000 := by rw [e1]; omega
        obtain ⟨e3, e4⟩ := e2
        repeat (first | refine W_seq ?_ | refine W_region ?_ | ((first | refine RL_nil ?_ | refine W_skip ?_ ); (first | change W _ _ _ _ _ | change Exists _ )) | (refine isRL ?_; first | refine uMv ?_ | refine uAs ?_ | (refine isBin ?_; first | refine uIb ?_ | refine uBb true ?_ | refine uBb false ?_ ) | (refine isLd ?_; first | refine uLp ?_ | refine uLb ?_ | refine uL1 ?_ ) | (refine isCl ?_; first | refine uC (hQ) ?_ | refine uP ?_) | (refine isFa ?_; first | refine uP ?_) | (refine isSt ?_; first | refine uSw ?_ ) | refine uX ?_ | refine uN ?_) | refine W_block ?_ | refine wT fun _ => ?_ | refine wF fun _ => ?_)
        rw [min_i _ (min (1 + ((p.kids.take k).map (wP p)).sum) 401 + (min (sizeN q) 401 + 1) * timesP p) (by rw [e1]; rfl), size_step _ _ _ (by omega), ← hw, ← hnx]
        exact ⟨k + 1, by omega, hlt, (by (repeat (first | exact sub_nil _ | refine sub_cons (by rfl) ?_))), (by (repeat (first | exact sub_nil _ | refine sub_cons (by rfl) ?_)))⟩
    · have hw : wP p q = sizeN q := by unfold wP; rw [if_neg k5]
      repeat (first | refine W_seq ?_ | refine W_region ?_ | ((first | refine RL_nil ?_ | refine W_skip ?_ ); (first | change W _ _ _ _ _ | change Exists _ )) | (refine isRL ?_; first | refine uMv ?_ | refine uAs ?_ | (refine isBin ?_; first | refine uIb ?_ | refine uBb true ?_ | refine uBb false ?_ ) | (refine isLd ?_; first | refine uLp ?_ | refine uLb ?_ | refine uL1 ?_ ) | (refine isCl ?_; first | refine uC (hQ) ?_ | refine uP ?_) | (refine isFa ?_; first | refine uP ?_) | (refine isSt ?_; first | refine uSw ?_ ) | refine uX ?_ | refine uN ?_) | refine W_block ?_ | refine wT fun _ => ?_ | refine wF fun _ => ?_)
      rw [min_i _ (min (1 + ((p.kids.take k).map (wP p)).sum) 401 + min (sizeN q) 401) (by rfl), size_step', ← hw, ← hnx]
      exact ⟨k + 1, by omega, hlt, (by (repeat (first | exact sub_nil _ | refine sub_cons (by rfl) ?_))), (by (repeat (first | exact sub_nil _ | refine sub_cons (by rfl) ?_)))⟩
  · have hkl : k = p.kids.length := by omega
    subst hkl
    rw [List.take_length, ← sizeN_w]
    repeat (first | refine W_seq ?_ | refine W_region ?_ | ((first | refine RL_nil ?_ | refine W_exit ?_ | refine W_ret ?_); (first | change W _ _ _ _ _ | change EndQ _ _ _ _ _ _ )) | (refine isRL ?_; first | refine uMv ?_ | refine uAs ?_ | (refine isBin ?_; first | refine uBb false ?_ ) ) | refine wF fun _ => ?_)
    exact end_r (by rfl) rfl
end Go.Proofs.YtjhkehloipmjfaaGreat
/- Walks: may a query be? -/
namespace Go.Proofs.YtjhkehloipmjfaaGreat
open Go.RowKit
def namesQ (p : Pt) : List ByteArray := sortB (varsP p)
def headQ (q : Qy) : Bool := (if q.sel = 3 then decide (1 ≤ q.k ∧ q.k ≤ 1000) else decide (q.k = 0)) && decide (0 ≤ q.mode ∧ q.mode ≤ 3) && decide (0 ≤ q.sel ∧ q.sel ≤ 3)
def tailQ (q : Qy) : Int := if compN (namesQ q.pat) < (namesQ q.pat).length then 3 else if endsP q.pat = false then 5 else if 400 < sizeN q.pat then 6 else if (lenP q.pat).high = none ∧ q.mode = 0 ∧ q.sel = 0 then 5 else 0
def checkQ (q : Qy) : Int := if headQ q = false then 1 else if 50 < depthP 50 q.pat then 6 else if rightP q.pat = false then 1 else tailQ q
theorem hi_none {o : Option Nat} (h : o = none) : hiI o < 0 := by subst h; decide
theorem hi_some {o : Option Nat} (h : ¬ o = none) : ¬ hiI o < 0 := by
  cases o with
  | none => exact absurd rfl h
  | some n => show ¬ (n : Int) < 0; omega
theorem in_v (n a b : Int) : CallsV Tryz.prog 56 [vI n, vI a, vI b] (.val (vB (decide (a ≤ n ∧ n ≤ b)))) := by
  by_cases h : a ≤ n ∧ n ≤ b
  · rw [decide_eq_true h]; exact inY h
  · rw [decide_eq_false h]; exact inO h
theorem hi_iff (o : Option Nat) : (o = none) = (hiI o < 0) := propext ⟨hi_none, fun h => by
  cases o with
  | none => rfl
  | some n => exact absurd h (hi_some (by simp))⟩
def HeadP (q : Qy) : Prop := ((q.sel = 3 ∧ 1 ≤ q.k ∧ q.k ≤ 1000) ∨ (¬ q.sel = 3 ∧ q.k = 0)) ∧ (0 ≤ q.mode ∧ q.mode ≤ 3) ∧ 0 ≤ q.sel ∧ q.sel ≤ 3
theorem head_iff (q : Qy) : headQ q = true ↔ HeadP q := by
  unfold headQ HeadP
  by_cases h : q.sel = 3
  · simp only [if_pos h, Bool.and_eq_true, decide_eq_true_eq]; omega
  · simp only [if_neg h, Bool.and_eq_true, decide_eq_true_eq]; omega
theorem check_n {q : Qy} (h : ¬ HeadP q) : 1 = checkQ q := by
  have : headQ q = false := by
    cases hh : headQ q with
    | false => rfl
    | true => exact absurd ((head_iff q).1 hh) h
  unfold checkQ; rw [if_pos this]
theorem check_d {q : Qy} (h : HeadP q) (hd : 50 < depthP 50 q.pat) : 6 = checkQ q := by
  unfold checkQ; rw [if_neg (by rw [(head_iff q).2 h]; decide), if_pos hd]
theorem check_r {q : Qy} (h : HeadP q) (hd : ¬ 50 < depthP 50 q.pat) (hr : rightP q.pat = false) : 1 = checkQ q := by
  unfold checkQ; rw [if_neg (by rw [(head_iff q).2 h]; decide), if_neg hd, if_pos hr]
set_option maxRecDepth 100000 in
set_option maxHeartbeats 16000000 in
theorem check_v (q : Qy) (hvb : (varsP q.pat).length ≤ 1000000) : CallsV Tryz.prog 28 [.dat (encQ q)] (.val (vI (checkQ q))) := by
  have hD := DepthP_v q.pat
  have hR := rightP_v q.pat
  have hV := vars_v sorts_v q.pat hvb
  obtain ⟨L, hL⟩ : ∃ L, L = sortB (varsP q.pat) := ⟨_, rfl⟩
  have hLl : L.length ≤ 1000000 := by rw [hL, sortB_len]; exact hvb
  have htail : tailQ q = if compN L < L.length then 3 else if endsP q.pat = false then 5 else if 400 < sizeN q.pat then 6 else if hiI (lenP q.pat).high < 0 ∧ q.mode = 0 ∧ q.sel = 0 then 5 else 0 := by rw [hL]; unfold tailQ namesQ; simp only [hi_iff]
  rw [← hL] at hV
  have hlm : (L.map encS).length = L.length := List.length_map _
  (refine callsV_of_W (Ty := Ty) ty_ok Tryz.func28 rfl rfl rfl fun w0 S0 => ?_; simp only [argsF, List.zipIdx_cons, List.zipIdx_nil, List.map_cons, List.map_nil, Nat.zero_add])
  repeat' (first | refine W_seq ?_ | refine W_region ?_ | ((first | refine RL_nil ?_ | refine W_skip ?_ | refine W_ret ?_); (first | change W _ _ _ _ _ | skip)) | (refine isRL ?_; first | refine uMv ?_ | refine uAs ?_ | refine uO ?_ | (refine isBin ?_; first | refine uP ?_) | (refine isLd ?_; first | refine uL1 ?_ ) | (refine isCl ?_; first | refine uC (in_v _ _ _) ?_ | refine uC (hD) ?_ | refine uC (hR) ?_ | refine uCO (hV) ?_ ) | (refine isFa ?_; first | refine uP ?_) | refine uP ?_ | refine uBx ?_ | ((first | refine uGsN ?_ ?_ | refine uGsND ?_ ?_ ) <;> intro hb)) | refine W_block ?_ | refine wT fun _ => ?_ | ((first | refine wCsD ?_ ?_ | refine wCsND ?_ ?_ | refine wCsNB ?_ ?_ ) <;> intro hb))
  all_goals try exact end_r (by rfl) (vI_eq (check_n (by unfold HeadP; omega)))
  all_goals try exact end_r (by rfl) (vI_eq (check_d (by unfold HeadP; omega) (by omega)))
  all_goals try exact end_r (by rfl) (vI_eq (check_r (by unfold HeadP; omega) (by omega) (by assumption)))
  all_goals
    have hr : rightP q.pat = true := by assumption
    have hdef : checkQ q = tailQ q := by
      unfold checkQ
      rw [if_neg (by rw [(head_iff q).2 (by unfold HeadP; omega)]; decide), if_neg (by omega), if_neg (by rw [hr]; decide)]
    rw [htail] at hdef
    have hE := ends_v q.pat hr
    have hS := size_v q.pat hr
    have hN := lengths_v q.pat hr
    by_cases hl0 : L = []
    · clear hL
      subst hl0
      rw [if_neg (by decide)] at hdef
      repeat' (first | refine W_seq ?_ | refine W_region ?_ | ((first | refine RL_nil ?_ | refine W_skip ?_ | refine W_ret ?_); (first | change W _ _ _ _ _ | change EndQ _ _ _ _ _ _ | skip)) | (refine isRL ?_; first | refine uMv ?_ | refine uAs ?_ | refine uO ?_ | (refine isBin ?_; first | refine uBb false ?_ | refine uP ?_) | (refine isLd ?_; first | refine uL1 ?_ ) | (refine isCl ?_; first | refine uC (clone0_v) ?_ | refine uC (compact0_v) ?_ | refine uC (hE) ?_ | refine uC (hS) ?_ | refine uC (hN) ?_ | refine uP ?_) | (refine isFa ?_; first | refine uP ?_) | refine uFld ?_ | refine uP ?_ | ((first | refine uGsD ?_ ?_ ) <;> intro hb)) | refine wF fun _ => ?_ | ((first | refine wCsD ?_ ?_ | refine wCsNB ?_ ?_ ) <;> intro hb))
      all_goals exact end_r (by rfl) (vI_eq (by rw [hdef]; (repeat' split) <;> first | rfl | omega | simp_all))
    · have hCl := clone_v L hLl hl0
      refine uCc L hCl comps_v ?_
      repeat' (first | refine W_seq ?_ | refine W_region ?_ | ((first | refine RL_nil ?_ | refine W_skip ?_ | refine W_ret ?_); (first | change W _ _ _ _ _ | change EndQ _ _ _ _ _ _ | skip)) | (refine isRL ?_; first | refine uMv ?_ | refine uAs ?_ | refine uO ?_ | (refine isBin ?_; first | refine uBb false ?_ | refine uP ?_) | (refine isLd ?_; first | refine uL1 ?_ ) | (refine isCl ?_; first | refine uC (hE) ?_ | refine uC (hS) ?_ | refine uC (hN) ?_ | refine uP ?_) | (refine isFa ?_; first | refine uP ?_) | refine uFld ?_ | refine uP ?_ | ((first | refine uGsD ?_ ?_ ) <;> intro hb)) | refine wF fun _ => ?_ | ((first | refine wCsD ?_ ?_ | refine wCsNB ?_ ?_ ) <;> intro hb))
      all_goals exact end_r (by rfl) (vI_eq (by rw [hdef]; (repeat' split) <;> first | rfl | omega | simp_all))
end Go.Proofs.YtjhkehloipmjfaaGreat
/- The walk of AutoBuilds: it returns true, if its names fit into a slice. -/
namespace Go.Proofs.YtjhkehloipmjfaaGreat
open Go.RowKit
theorem splice_P {cs : List D} {o : Nat} (p : Pt) (ho : o ≠ 0) (hl : cs.length = o + 20) : splice cs o (encP p) = cs.take o ++ encP p := by
  have hlen := encP_len p
  have : splice cs o (encP p) = cs.take o ++ encP p ++ cs.drop (o + (encP p).length) := by
    rw [encP_eq]
    unfold splice
    split
    · rename_i h; injection h with _ h; cases h
    · rw [if_neg (fun h => ho h.1)]
  rw [this, hlen, ← hl, List.drop_length, List.append_nil]
section
variable {w0 : W0} {S0 : Nat → Nat → Prop} {nt : Nat} {fr : Fr} {σ : Obs} {o : Oper} {ops : Array Oper} {rest : List Oper} {Q : Fr → Obs → Prop} {d : Nat} {t : TypeId} {i : TyI} {ds : List D} {ps : Array (Nat × Operand)}
/-- a query is written out -/
theorem uBdQ (q : Qy) (h : RL (cx nt w0 S0) ops rest ((d, .dat (encQ q)) :: fr) σ Q) (ho : o.op = .build t ps := by rfl) (hw : wantA ops o fr = some true := by rfl) (hdst : o.dst = some d := by rfl) (hd : Nat.blt d nt = true := by rfl) (hi : Ty t = some i := by rfl) (ht : i.tag = 1 := by rfl)
    (hl : layF i.places fr ps.toList (i.zero.map zc) = some ds := by first | exact layF_nil _ _ _ | exact (layF_cons (by rfl) (by rfl) (by first | rfl | exact encE_len _ | exact encP_len _ | exact encQ_len _ | (simp only [encE_len]; done) | (simp only [encP_len])) (by first | decide | exact Nat.le_of_ble_eq_true rfl | (simp only [List.length_map]; decide)) (layF_nil _ _ _)) | exact (layF_cons (by rfl) (by rfl) (by first | rfl | exact encE_len _ | exact encP_len _ | exact encQ_len _ | (simp only [encE_len]; done) | (simp only [encP_len])) (by first | decide | exact Nat.le_of_ble_eq_true rfl | (simp only [List.length_map]; decide)) (layF_cons (by rfl) (by rfl) (by first | rfl | exact encE_len _ | exact encP_len _ | exact encQ_len _ | (simp only [encE_len]; done) | (simp only [encP_len])) (by first | decide | exact Nat.le_of_ble_eq_true rfl | (simp only [List.length_map]; decide)) (layF_nil _ _ _))) | exact (layF_cons (by rfl) (by rfl) (by first | rfl | exact encE_len _ | exact encP_len _ | exact encQ_len _ | (simp only [encE_len]; done) | (simp only [encP_len])) (by first | decide | exact Nat.le_of_ble_eq_true rfl | (simp only [List.length_map]; decide)) (layF_cons (by rfl) (by rfl) (by first | rfl | exact encE_len _ | exact encP_len _ | exact encQ_len _ | (simp only [encE_len]; done) | (simp only [encP_len])) (by first | decide | exact Nat.le_of_ble_eq_true rfl | (simp only [List.length_map]; decide)) (layF_cons (by rfl) (by rfl) (by first | rfl | exact encE_len _ | exact encP_len _ | exact encQ_len _ | (simp only [encE_len]; done) | (simp only [encP_len])) (by first | decide | exact Nat.le_of_ble_eq_true rfl | (simp only [List.length_map]; decide)) (layF_nil _ _ _)))) | exact (layF_cons (by rfl) (by rfl) (by first | rfl | exact encE_len _ | exact encP_len _ | exact encQ_len _ | (simp only [encE_len]; done) | (simp only [encP_len])) (by first | decide | exact Nat.le_of_ble_eq_true rfl | (simp only [List.length_map]; decide)) (layF_cons (by rfl) (by rfl) (by first | rfl | exact encE_len _ | exact encP_len _ | exact encQ_len _ | (simp only [encE_len]; done) | (simp only [encP_len])) (by first | decide | exact Nat.le_of_ble_eq_true rfl | (simp only [List.length_map]; decide)) (layF_cons (by rfl) (by rfl) (by first | rfl | exact encE_len _ | exact encP_len _ | exact encQ_len _ | (simp only [encE_len]; done) | (simp only [encP_len])) (by first | decide | exact Nat.le_of_ble_eq_true rfl | (simp only [List.length_map]; decide)) (layF_cons (by rfl) (by rfl) (by first | rfl | exact encE_len _ | exact encP_len _ | exact encQ_len _ | (simp only [encE_len]; done) | (simp only [encP_len])) (by first | decide | exact Nat.le_of_ble_eq_true rfl | (simp only [List.length_map]; decide)) (layF_nil _ _ _))))) | exact (layF_cons (by rfl) (by rfl) (by first | rfl | exact encE_len _ | exact encP_len _ | exact encQ_len _ | (simp only [encE_len]; done) | (simp only [encP_len])) (by first | decide | exact Nat.le_of_ble_eq_true rfl | (simp only [List.length_map]; decide)) (layF_cons (by rfl) (by rfl) (by first | rfl | exact encE_len _ | exact encP_len _ | exact encQ_len _ | (simp only [encE_len]; done) | (simp only [encP_len])) (by first | decide | exact Nat.le_of_ble_eq_true rfl | (simp only [List.length_map]; decide)) (layF_cons (by rfl) (by rfl) (by first | rfl | exact encE_len _ | exact encP_len _ | exact encQ_len _ | (simp only [encE_len]; done) | (simp only [encP_len])) (by first | decide | exact Nat.le_of_ble_eq_true rfl | (simp only [List.length_map]; decide)) (layF_cons (by rfl) (by rfl) (by first | rfl | exact encE_len _ | exact encP_len _ | exact encQ_len _ | (simp only [encE_len]; done) | (simp only [encP_len])) (by first | decide | exact Nat.le_of_ble_eq_true rfl | (simp only [List.length_map]; decide)) (layF_cons (by rfl) (by rfl) (by first | rfl | exact encE_len _ | exact encP_len _ | exact encQ_len _ | (simp only [encE_len]; done) | (simp only [encP_len])) (by first | decide | exact Nat.le_of_ble_eq_true rfl | (simp only [List.length_map]; decide)) (layF_nil _ _ _)))))) | exact (layF_cons (by rfl) (by rfl) (by first | rfl | exact encE_len _ | exact encP_len _ | exact encQ_len _ | (simp only [encE_len]; done) | (simp only [encP_len])) (by first | decide | exact Nat.le_of_ble_eq_true rfl | (simp only [List.length_map]; decide)) (layF_cons (by rfl) (by rfl) (by first | rfl | exact encE_len _ | exact encP_len _ | exact encQ_len _ | (simp only [encE_len]; done) | (simp only [encP_len])) (by first | decide | exact Nat.le_of_ble_eq_true rfl | (simp only [List.length_map]; decide)) (layF_cons (by rfl) (by rfl) (by first | rfl | exact encE_len _ | exact encP_len _ | exact encQ_len _ | (simp only [encE_len]; done) | (simp only [encP_len])) (by first | decide | exact Nat.le_of_ble_eq_true rfl | (simp only [List.length_map]; decide)) (layF_cons (by rfl) (by rfl) (by first | rfl | exact encE_len _ | exact encP_len _ | exact encQ_len _ | (simp only [encE_len]; done) | (simp only [encP_len])) (by first | decide | exact Nat.le_of_ble_eq_true rfl | (simp only [List.length_map]; decide)) (layF_cons (by rfl) (by rfl) (by first | rfl | exact encE_len _ | exact encP_len _ | exact encQ_len _ | (simp only [encE_len]; done) | (simp only [encP_len])) (by first | decide | exact Nat.le_of_ble_eq_true rfl | (simp only [List.length_map]; decide)) (layF_cons (by rfl) (by rfl) (by first | rfl | exact encE_len _ | exact encP_len _ | exact encQ_len _ | (simp only [encE_len]; done) | (simp only [encP_len])) (by first | decide | exact Nat.le_of_ble_eq_true rfl | (simp only [List.length_map]; decide)) (layF_nil _ _ _))))))) | exact (layF_cons (by rfl) (by rfl) (by first | rfl | exact encE_len _ | exact encP_len _ | exact encQ_len _ | (simp only [encE_len]; done) | (simp only [encP_len])) (by first | decide | exact Nat.le_of_ble_eq_true rfl | (simp only [List.length_map]; decide)) (layF_cons (by rfl) (by rfl) (by first | rfl | exact encE_len _ | exact encP_len _ | exact encQ_len _ | (simp only [encE_len]; done) | (simp only [encP_len])) (by first | decide | exact Nat.le_of_ble_eq_true rfl | (simp only [List.length_map]; decide)) (layF_cons (by rfl) (by rfl) (by first | rfl | exact encE_len _ | exact encP_len _ | exact encQ_len _ | (simp only [encE_len]; done) | (simp only [encP_len])) (by first | decide | exact Nat.le_of_ble_eq_true rfl | (simp only [List.length_map]; decide)) (layF_cons (by rfl) (by rfl) (by first | rfl | exact encE_len _ | exact encP_len _ | exact encQ_len _ | (simp only [encE_len]; done) | (simp only [encP_len])) (by first | decide | exact Nat.le_of_ble_eq_true rfl | (simp only [List.length_map]; decide)) (layF_cons (by rfl) (by rfl) (by first | rfl | exact encE_len _ | exact encP_len _ | exact encQ_len _ | (simp only [encE_len]; done) | (simp only [encP_len])) (by first | decide | exact Nat.le_of_ble_eq_true rfl | (simp only [List.length_map]; decide)) (layF_cons (by rfl) (by rfl) (by first | rfl | exact encE_len _ | exact encP_len _ | exact encQ_len _ | (simp only [encE_len]; done) | (simp only [encP_len])) (by first | decide | exact Nat.le_of_ble_eq_true rfl | (simp only [List.length_map]; decide)) (layF_cons (by rfl) (by rfl) (by first | rfl | exact encE_len _ | exact encP_len _ | exact encQ_len _ | (simp only [encE_len]; done) | (simp only [encP_len])) (by first | decide | exact Nat.le_of_ble_eq_true rfl | (simp only [List.length_map]; decide)) (layF_nil _ _ _))))))))) (hs : ds = encQ q := by refine (splice_P _ ?_ ?_).trans ?_ <;> first | decide | rfl) : RL (cx nt w0 S0) ops (o :: rest) fr σ Q :=
  uBd (cs := encQ q) h ho hw hdst hd hi ht hl hs
end
theorem check_ok {q : Qy} (h : checkQ q = 0) : rightP q.pat = true ∧ sizeN q.pat ≤ 400 := by
  unfold checkQ at h
  split at h
  · cases h
  split at h
  · cases h
  split at h
  · cases h
  rename_i h1 h2 h3
  unfold tailQ at h
  split at h
  · cases h
  split at h
  · cases h
  split at h
  · cases h
  rename_i h4
  exact ⟨by simpa using h3, by omega⟩
/-- what is shown in any case -/
def ptA : Pt := ⟨2, ⟨#[]⟩, 4, zE, zE, 0, 0, []⟩
def litA : List D := [.v (.int .i64 2), .v (.string ⟨#[]⟩), .v (.int .i64 4), .v (.int .i64 0), .v (.string ⟨#[]⟩), .v (.int .i64 0), .v (.int .i64 0), .v (.float .f64 0), .v (.string ⟨#[]⟩), .sl [],
      .v (.int .i64 0), .v (.string ⟨#[]⟩), .v (.int .i64 0), .v (.int .i64 0), .v (.float .f64 0), .v (.string ⟨#[]⟩), .sl [], .v (.int .i64 0), .v (.int .i64 0), .sl []]
theorem enc_ptA : encP ptA = litA := by rw [encP_eq]; rfl
theorem build_show : buildM (quantP ptA (-1)) = ⟨[ptA], [⟨0, 2, -1⟩, ⟨2, 2, 0⟩, ⟨2, 1, -1⟩], 3⟩ := by
  unfold buildM
  rw [lay_star (k := ptA) rfl rfl (by decide), lay_elem (.inr rfl)]; rfl
set_option maxRecDepth 100000 in
set_option maxHeartbeats 4000000 in
theorem shown16_v : CallsV Tryz.prog 7 [] (.val (vB true)) := by
  have hB := build_m (quantP ptA (-1)) (shape_quant (.inr rfl) (by rw [shapeP_eq, if_pos (.inr rfl)]; rfl)) (by rw [nodes_quant, nodesP_eq]; decide)
  rw [build_show, quant_cells, enc_ptA] at hB
  simp only [encA, List.map_cons, List.map_nil, enc_ptA, encMv, litA] at hB
  (refine callsV_of_W (Ty := Ty) ty_ok Tryz.func7 rfl rfl rfl fun w0 S0 => ?_; simp only [argsF, List.zipIdx_nil, List.map_nil])
  repeat' (first | refine W_seq ?_ | refine W_region ?_ | ((first | refine RL_nil ?_ | refine W_ret ?_); (first | change W _ _ _ _ _ | change EndQ _ _ _ _ _ _ )) | (refine isRL ?_; first | refine uMv ?_ | refine uAs ?_ | (refine isBin ?_; first | refine uBb true ?_ ) | (refine isLd ?_; first | refine uLb ?_ | refine uL1 ?_ | refine uL2 ?_ ) | (refine isCl ?_; first | refine uM (hB) ?_ | refine uP ?_) | (refine isFa ?_; first | refine uP ?_) | (refine isBd ?_; first | refine uBd ?_ ) | (refine isSt ?_; first | refine uSw ?_ ) | refine uX ?_ | refine uBs ?_ | refine uP ?_ | refine uN ?_ ))
  exact end_r (by rfl) rfl
end Go.Proofs.YtjhkehloipmjfaaGreat
