/- Walks: lengths, by the document. -/
import Derived.Test.YtgdgcloenhnbiaaVO
namespace Go.Proofs.Ytgdgcloenhnbiaa
open Go.RowKit
set_option maxRecDepth 100000 in
theorem rtimes_raw (a b : Int) (h3 : -9223372036854775808 ≤ a * b) (h4 : a * b ≤ 100000000) : CallsV Try.prog 49 [vI a, vI b] (.val (vI (if 0 ≤ a ∧ 0 ≤ b then (if 1000000 < a * b then 1000000 else a * b) else -1))) := by
  (refine callsV_of_W (Ty := Ty) ty_ok Try.func49 rfl rfl rfl fun w0 S0 => ?_; simp only [argsF, List.zipIdx_cons, List.zipIdx_nil, List.map_cons, List.map_nil, Nat.zero_add])
  by_cases h1 : 0 ≤ a
  · by_cases h2 : 0 ≤ b
    · repeat (first | refine W_seq ?_ | refine W_region ?_ | (refine RL_nil ?_; (first | change W _ _ _ _ _ | change EndQ _ _ _ _ _ _ | change Exists _ | change EndG _ _ _ _ _ _ _ _ _ _ | change EndM _ _ _ _ _ _ _ | skip)) | (refine isRL ?_; first | refine uMv ?_ | refine uAs ?_ | refine uO ?_ | (refine isBin ?_; first | refine uIb ?_ | refine uCat ?_ | refine uBb true ?_ | refine uBb false ?_ | refine uP ?_ | refine uEq true ?_ | refine uEq false ?_) | (refine isCl ?_; first | refine uP ?_) | refine uP ?_) | refine W_cond true (by rfl) (fun _ => ?_) (fun h => by cases h) | refine W_cond false (by rfl) (fun h => by cases h) (fun _ => ?_) | (refine W_skip ?_; (first | change W _ _ _ _ _ | change EndQ _ _ _ _ _ _ | change Exists _ | change EndG _ _ _ _ _ _ _ _ _ _ | change EndM _ _ _ _ _ _ _ | skip)) | (refine W_ret ?_; (first | change W _ _ _ _ _ | change EndQ _ _ _ _ _ _ | change Exists _ | change EndG _ _ _ _ _ _ _ _ _ _ | change EndM _ _ _ _ _ _ _ | skip)))
      exact end_r (by rfl) (by rw [if_pos (show 0 ≤ a ∧ 0 ≤ b from ⟨h1, h2⟩)]; rfl)
    · repeat (first | refine W_seq ?_ | refine W_region ?_ | (refine RL_nil ?_; (first | change W _ _ _ _ _ | change EndQ _ _ _ _ _ _ | change Exists _ | change EndG _ _ _ _ _ _ _ _ _ _ | change EndM _ _ _ _ _ _ _ | skip)) | (refine isRL ?_; first | refine uMv ?_ | refine uAs ?_ | refine uO ?_ | (refine isBin ?_; first | refine uIb ?_ | refine uCat ?_ | refine uBb true ?_ | refine uBb false ?_ | refine uP ?_ | refine uEq true ?_ | refine uEq false ?_) | (refine isCl ?_; first | refine uP ?_) | refine uP ?_) | refine W_cond true (by rfl) (fun _ => ?_) (fun h => by cases h) | refine W_cond false (by rfl) (fun h => by cases h) (fun _ => ?_) | (refine W_skip ?_; (first | change W _ _ _ _ _ | change EndQ _ _ _ _ _ _ | change Exists _ | change EndG _ _ _ _ _ _ _ _ _ _ | change EndM _ _ _ _ _ _ _ | skip)) | (refine W_ret ?_; (first | change W _ _ _ _ _ | change EndQ _ _ _ _ _ _ | change Exists _ | change EndG _ _ _ _ _ _ _ _ _ _ | change EndM _ _ _ _ _ _ _ | skip)))
      exact end_r (by rfl) (by rw [if_neg (show ¬ (0 ≤ a ∧ 0 ≤ b) from fun h => h2 h.2)]; rfl)
  · repeat (first | refine W_seq ?_ | refine W_region ?_ | (refine RL_nil ?_; (first | change W _ _ _ _ _ | change EndQ _ _ _ _ _ _ | change Exists _ | change EndG _ _ _ _ _ _ _ _ _ _ | change EndM _ _ _ _ _ _ _ | skip)) | (refine isRL ?_; first | refine uMv ?_ | refine uAs ?_ | refine uO ?_ | (refine isBin ?_; first | refine uIb ?_ | refine uCat ?_ | refine uBb true ?_ | refine uBb false ?_ | refine uP ?_ | refine uEq true ?_ | refine uEq false ?_) | (refine isCl ?_; first | refine uP ?_) | refine uP ?_) | refine W_cond true (by rfl) (fun _ => ?_) (fun h => by cases h) | refine W_cond false (by rfl) (fun h => by cases h) (fun _ => ?_) | (refine W_skip ?_; (first | change W _ _ _ _ _ | change EndQ _ _ _ _ _ _ | change Exists _ | change EndG _ _ _ _ _ _ _ _ _ _ | change EndM _ _ _ _ _ _ _ | skip)) | (refine W_ret ?_; (first | change W _ _ _ _ _ | change EndQ _ _ _ _ _ _ | change Exists _ | change EndG _ _ _ _ _ _ _ _ _ _ | change EndM _ _ _ _ _ _ _ | skip)))
    exact end_r (by rfl) (by rw [if_neg (show ¬ (0 ≤ a ∧ 0 ≤ b) from fun h => h1 h.1)]; rfl)
theorem to_i {P : Program} {f : FuncId} {args : List VV} {a b : Int} (h : CallsV P f args (.val (vI a))) (e : a = b) : CallsV P f args (.val (vI b)) := e ▸ h
theorem rlow_v (s : Sp) (hs : OkS s) (l m : Int) (hl : 0 ≤ l ∧ l ≤ 20) : CallsV Try.prog 49 [vI s.low, vI l] (.val (vI (timesS s l m).low)) := by
  have e1 : (s.low : Int) * l = ((s.low * l.toNat : Nat) : Int) := by rw [Int.natCast_mul, Int.toNat_of_nonneg hl.1]
  have e2 : s.low * l.toNat ≤ 1000000 * 20 := Nat.mul_le_mul hs.1 (by omega)
  refine to_i (rtimes_raw s.low l (by rw [e1]; omega) (by rw [e1]; omega)) ?_
  rw [if_pos (by omega)]
  exact sat_i e1
theorem rhigh_v (s : Sp) (hs : OkS s) (l m : Int) (hm : -1 ≤ m ∧ m ≤ 20) : CallsV Try.prog 49 [vI (hiI s.high), vI m] (.val (vI (hiI (timesS s l m).high))) := by
  have hq : -20000000 ≤ hiI s.high * m ∧ hiI s.high * m ≤ 20000000 := by
    have := hiI_le hs
    generalize hiI s.high = x at this
    by_cases hx : x = -1
    · subst hx; omega
    · by_cases hm1 : m = -1
      · subst hm1; omega
      · have h0 : 0 ≤ x * m := Int.mul_nonneg (by omega) (by omega)
        have h1 : x * m ≤ 1000000 * 20 := Int.mul_le_mul this.2 hm.2 (by omega) (by omega)
        omega
  refine to_i (rtimes_raw (hiI s.high) m (by omega) (by omega)) ?_
  unfold timesS hiI
  cases s.high with
  | none => simp only [Option.map_none, ite_self]; rfl
  | some h =>
    by_cases hm0 : m < 0
    · simp only [if_pos hm0]; rw [if_neg (by omega)]
    · simp only [if_neg hm0, Option.map_some]
      rw [if_pos (by omega)]
      exact sat_i (by rw [Int.natCast_mul, Int.toNat_of_nonneg (by omega)])
def stS (p : Pt) (k : Nat) : Sp := if p.kind = 5 then (if k = 0 then unitS else lenP p) else if p.kind = 4 then altS ((p.kids.take k).map lenP) else spanS ((p.kids.take k).map lenP)
theorem st_zero (p : Pt) : stS p 0 = unitS := by
  by_cases h5 : p.kind = 5
  · unfold stS; rw [if_pos h5]; rfl
  · by_cases h4 : p.kind = 4
    · unfold stS; rw [if_neg h5, if_pos h4]; rfl
    · unfold stS; rw [if_neg h5, if_neg h4]; rfl
theorem st_end {p : Pt} (h : rightP p = true) (k1 : ¬ p.kind = 1) (k2 : ¬ p.kind = 2) : stS p p.kids.length = lenP p := by
  unfold stS
  rw [List.take_length]
  rcases right_kind h with k | k | k | k | k
  · exact absurd k k1
  · exact absurd k k2
  · rw [if_neg (by omega), if_neg (by omega), len_seq k]
  · rw [if_neg (by omega), if_pos k, len_alt k]
  · obtain ⟨⟨c, hc, _⟩, _⟩ := right_quant h k
    rw [if_pos k, hc, if_neg (by simp)]
theorem ok_st (p : Pt) (k : Nat) : OkS (stS p k) := by
  unfold stS
  split
  · split
    · exact ok_unit
    · exact ok_len p
  · split
    · exact ok_alt (ok_lens _)
    · exact ok_seq _
theorem st_seq {p q : Pt} {k : Nat} (h3 : p.kind = 3) (hq : p.kids[k]? = some q) : stS p (k + 1) = andS (stS p k) (lenP q) := by
  unfold stS
  rw [if_neg (by omega), if_neg (by omega), if_neg (by omega), if_neg (by omega), List.take_add_one, hq, Option.toList_some, List.map_append]
  unfold spanS
  rw [List.foldl_append]; rfl
theorem st_alt0 {p q : Pt} (h4 : p.kind = 4) (hq : p.kids[0]? = some q) : stS p (0 + 1) = lenP q := by
  unfold stS
  rw [if_neg (by omega), if_pos (by omega), List.take_add_one, hq]; rfl
theorem st_alt {p q : Pt} {k : Nat} (h4 : p.kind = 4) (hk : k ≠ 0) (hq : p.kids[k]? = some q) : stS p (k + 1) = orS (stS p k) (lenP q) := by
  have hlt := (List.getElem?_eq_some_iff.1 hq).1
  unfold stS
  rw [if_neg (by omega), if_pos (by omega), if_neg (by omega), if_pos (by omega), List.take_add_one, hq, Option.toList_some, List.map_append, alt_app _ _ (fun e => by
    have := congrArg List.length e
    simp at this
    rcases this with h | h
    · exact hk h
    · rw [h] at hlt; cases hlt) (by simp)]
  rfl
theorem st_q {p q : Pt} (h : rightP p = true) (h5 : p.kind = 5) (hq : p.kids[0]? = some q) : stS p (0 + 1) = timesS (lenP q) p.min p.max := by
  obtain ⟨⟨c, hc, _⟩, _⟩ := right_quant h h5
  rw [hc] at hq
  obtain rfl : c = q := by simpa using hq
  unfold stS
  rw [if_pos h5, if_neg (by decide), len_quant h5 hc]
theorem hi_and {x y : Int} {s t : Sp} (hx : x = hiI s.high) (hy : y = hiI t.high) (h : 0 ≤ x ∧ 0 ≤ y) : (if 1000000 < x + y then 1000000 else x + y) = hiI (andS s t).high := by
  subst hx; subst hy
  unfold andS hiI andH at *
  cases hs : s.high <;> cases ht : t.high <;> rw [hs] at h <;> rw [ht] at h <;> simp only at h ⊢
  · omega
  · omega
  · omega
  · exact sat_i (by simp)
theorem hi_and' {x y : Int} {s t : Sp} (hx : x = hiI s.high) (hy : y = hiI t.high) (h : ¬ (0 ≤ x ∧ 0 ≤ y)) : -1 = hiI (andS s t).high := by
  subst hx; subst hy
  unfold andS hiI andH at *
  cases hs : s.high <;> cases ht : t.high <;> rw [hs] at h <;> rw [ht] at h <;> simp only at h ⊢
  omega
theorem hi_or {x y : Int} {s t : Sp} (hx : x = hiI s.high) (hy : y = hiI t.high) (h : 0 ≤ x ∧ 0 ≤ y) : (if y > x then y else x) = hiI (orS s t).high := by
  subst hx; subst hy
  unfold orS hiI orH at *
  cases hs : s.high <;> cases ht : t.high <;> rw [hs] at h <;> rw [ht] at h <;> simp only at h ⊢
  · omega
  · omega
  · omega
  · exact max_i _ _
theorem hi_or' {x y : Int} {s t : Sp} (hx : x = hiI s.high) (hy : y = hiI t.high) (h : ¬ (0 ≤ x ∧ 0 ≤ y)) : -1 = hiI (orS s t).high := by
  subst hx; subst hy
  unfold orS hiI orH at *
  cases hs : s.high <;> cases ht : t.high <;> rw [hs] at h <;> rw [ht] at h <;> simp only at h ⊢
  omega
theorem lo_or {a b : Int} {s t : Sp} (ha : a = s.low) (hb : b = t.low) : (if b < a then b else a) = ((orS s t).low : Int) := by
  subst ha; subst hb
  show _ = ((min s.low t.low : Nat) : Int)
  split <;> omega
set_option maxRecDepth 100000 in
set_option maxHeartbeats 8000000 in
theorem refLengths_v : ∀ p : Pt, rightP p = true → CallsV Try.prog 25 [.dat (encP p)] (.val (.tup [vI (lenP p).low, vI (hiI (lenP p).high)])) := Pt.ind fun p ih h => by
  have hr := right_kids h
  have hlm : (p.kids.map encP).length = p.kids.length := List.length_map _
  (refine callsV_of_W (Ty := Ty) ty_ok Try.func25 rfl rfl rfl fun w0 S0 => ?_; simp only [argsF, List.zipIdx_cons, List.zipIdx_nil, List.map_cons, List.map_nil, Nat.zero_add])
  by_cases k1 : p.kind = 1
  · have hd : lenP p = unitS := by rw [lenP_eq, if_pos k1]
    rw [hd]
    repeat (first | refine W_seq ?_ | refine W_region ?_ | (refine RL_nil ?_; (first | change W _ _ _ _ _ | change EndQ _ _ _ _ _ _ | change Exists _ | change EndG _ _ _ _ _ _ _ _ _ _ | change EndM _ _ _ _ _ _ _ | skip)) | (refine isRL ?_; first | refine uMv ?_ | refine uAs ?_ | refine uO ?_ | (refine isBin ?_; first | refine uIb ?_ | refine uCat ?_ | refine uBb true ?_ | refine uBb false ?_ | refine uP ?_ | refine uEq true ?_ | refine uEq false ?_) | (refine isLd ?_; first | refine uLp ?_ | refine uLb ?_ | refine uL1 ?_ | refine uL2 ?_ | refine uP ?_) | (refine isCl ?_; first | refine uP ?_) | (refine isFa ?_; first | refine uP ?_) | refine uX ?_ | refine uP ?_ | refine uBx ?_ | refine uN ?_) | refine W_block ?_ | refine W_cond true (by rfl) (fun _ => ?_) (fun h => by cases h) | refine W_cond false (by rfl) (fun h => by cases h) (fun _ => ?_) | (refine W_skip ?_; (first | change W _ _ _ _ _ | change EndQ _ _ _ _ _ _ | change Exists _ | change EndG _ _ _ _ _ _ _ _ _ _ | change EndM _ _ _ _ _ _ _ | skip)) | (refine W_exit ?_; (first | change W _ _ _ _ _ | change EndQ _ _ _ _ _ _ | change Exists _ | change EndG _ _ _ _ _ _ _ _ _ _ | change EndM _ _ _ _ _ _ _ | skip)) | (refine W_ret ?_; (first | change W _ _ _ _ _ | change EndQ _ _ _ _ _ _ | change Exists _ | change EndG _ _ _ _ _ _ _ _ _ _ | change EndM _ _ _ _ _ _ _ | skip)))
    exact end_r (by rfl) rfl
  by_cases k2 : p.kind = 2
  · have hd : lenP p = ⟨1, some 1⟩ := by rw [lenP_eq, if_neg k1, if_pos k2]
    rw [hd]
    repeat (first | refine W_seq ?_ | refine W_region ?_ | (refine RL_nil ?_; (first | change W _ _ _ _ _ | change EndQ _ _ _ _ _ _ | change Exists _ | change EndG _ _ _ _ _ _ _ _ _ _ | change EndM _ _ _ _ _ _ _ | skip)) | (refine isRL ?_; first | refine uMv ?_ | refine uAs ?_ | refine uO ?_ | (refine isBin ?_; first | refine uIb ?_ | refine uCat ?_ | refine uBb true ?_ | refine uBb false ?_ | refine uP ?_ | refine uEq true ?_ | refine uEq false ?_) | (refine isLd ?_; first | refine uLp ?_ | refine uLb ?_ | refine uL1 ?_ | refine uL2 ?_ | refine uP ?_) | (refine isCl ?_; first | refine uP ?_) | (refine isFa ?_; first | refine uP ?_) | refine uX ?_ | refine uP ?_ | refine uBx ?_ | refine uN ?_) | refine W_block ?_ | refine W_cond true (by rfl) (fun _ => ?_) (fun h => by cases h) | refine W_cond false (by rfl) (fun h => by cases h) (fun _ => ?_) | (refine W_skip ?_; (first | change W _ _ _ _ _ | change EndQ _ _ _ _ _ _ | change Exists _ | change EndG _ _ _ _ _ _ _ _ _ _ | change EndM _ _ _ _ _ _ _ | skip)) | (refine W_exit ?_; (first | change W _ _ _ _ _ | change EndQ _ _ _ _ _ _ | change Exists _ | change EndG _ _ _ _ _ _ _ _ _ _ | change EndM _ _ _ _ _ _ _ | skip)) | (refine W_ret ?_; (first | change W _ _ _ _ _ | change EndQ _ _ _ _ _ _ | change Exists _ | change EndG _ _ _ _ _ _ _ _ _ _ | change EndM _ _ _ _ _ _ _ | skip)))
    exact end_r (by rfl) rfl
  repeat (first | refine W_seq ?_ | refine W_region ?_ | (refine RL_nil ?_; (first | change W _ _ _ _ _ | change EndQ _ _ _ _ _ _ | change Exists _ | change EndG _ _ _ _ _ _ _ _ _ _ | change EndM _ _ _ _ _ _ _ | skip)) | (refine isRL ?_; first | refine uMv ?_ | refine uAs ?_ | refine uO ?_ | (refine isBin ?_; first | refine uIb ?_ | refine uCat ?_ | refine uBb true ?_ | refine uBb false ?_ | refine uP ?_ | refine uEq true ?_ | refine uEq false ?_) | (refine isLd ?_; first | refine uLp ?_ | refine uLb ?_ | refine uL1 ?_ | refine uL2 ?_ | refine uP ?_) | (refine isCl ?_; first | refine uP ?_) | (refine isFa ?_; first | refine uP ?_) | refine uX ?_ | refine uP ?_ | refine uBx ?_ | refine uN ?_) | refine W_block ?_ | refine W_cond true (by rfl) (fun _ => ?_) (fun h => by cases h) | refine W_cond false (by rfl) (fun h => by cases h) (fun _ => ?_) | (refine W_skip ?_; (first | change W _ _ _ _ _ | change EndQ _ _ _ _ _ _ | change Exists _ | change EndG _ _ _ _ _ _ _ _ _ _ | change EndM _ _ _ _ _ _ _ | skip)) | (refine W_exit ?_; (first | change W _ _ _ _ _ | change EndQ _ _ _ _ _ _ | change Exists _ | change EndG _ _ _ _ _ _ _ _ _ _ | change EndM _ _ _ _ _ _ _ | skip)) | (refine W_ret ?_; (first | change W _ _ _ _ _ | change EndQ _ _ _ _ _ _ | change Exists _ | change EndG _ _ _ _ _ _ _ _ _ _ | change EndM _ _ _ _ _ _ _ | skip)))
  refine W_for (α := Nat × Int × Int) (fun x => [(1, .one (.po 1 0)), (4, vI x.2.1), (5, vI x.2.2), (6, vI x.1)]) (fun _ => [(1, .box 30 (encP p))]) (fun x => x.1 ≤ p.kids.length ∧ x.2.1 = (stS p x.1).low ∧ x.2.2 = hiI (stS p x.1).high) (fun x => p.kids.length - x.1) (0, 0, 0) ⟨Nat.zero_le _, by rw [st_zero]; rfl, by rw [st_zero]; rfl⟩ (by (repeat (first | exact sub_nil _ | refine sub_cons (by rfl) ?_))) (by (repeat (first | exact sub_nil _ | refine sub_cons (by rfl) ?_))) ?_
  rintro ⟨k, lo, hi⟩ ⟨hk, hlo, hhi⟩
  simp only at hk hlo hhi ⊢
  refine W_limB (k := 1) (j := 19) (rows := p.kids.map encP) rfl (by rw [encP_eq]; rfl) fun hlim => ?_
  have hok := ok_st p k
  have hlo2 : 0 ≤ lo ∧ lo ≤ 1000000 := by have := hok.1; omega
  have hhi2 : -1 ≤ hi ∧ hi ≤ 1000000 := by have := hiI_le hok; omega
  by_cases hlt : k < p.kids.length
  · obtain ⟨q, hq⟩ : ∃ q, p.kids[k]? = some q := ⟨_, List.getElem?_eq_getElem hlt⟩
    have hQ := ih q (List.mem_of_getElem? hq) (hr q (List.mem_of_getElem? hq))
    have hokq := ok_len q
    have hcs : p.kind = 3 ∨ p.kind = 4 ∨ p.kind = 5 := by have := right_kind h; omega
    obtain ⟨a, ha⟩ : ∃ a : Int, a = (lenP q).low := ⟨_, rfl⟩
    obtain ⟨b, hb⟩ : ∃ b : Int, b = hiI (lenP q).high := ⟨_, rfl⟩
    have ha2 : 0 ≤ a ∧ a ≤ 1000000 := by have := hokq.1; omega
    have hb2 : -1 ≤ b ∧ b ≤ 1000000 := by have := hiI_le hokq; omega
    rcases hcs with k3 | k4 | k5
    · rw [← ha, ← hb] at hQ
      have hst := st_seq k3 hq
      have hlow : (if 1000000 < lo + a then 1000000 else lo + a) = ((stS p (k + 1)).low : Int) := by rw [hst]; exact sat_i (by omega)
      by_cases hc : 0 ≤ hi ∧ 0 ≤ b
      · obtain ⟨hc1, hc2⟩ := hc
        have hhigh := hi_and hhi hb ⟨hc1, hc2⟩
        rw [← hst] at hhigh
        repeat (first | refine W_seq ?_ | refine W_region ?_ | (refine RL_nil ?_; (first | change W _ _ _ _ _ | change EndQ _ _ _ _ _ _ | change Exists _ | change EndG _ _ _ _ _ _ _ _ _ _ | change EndM _ _ _ _ _ _ _ | skip)) | (refine isRL ?_; first | refine uMv ?_ | refine uAs ?_ | refine uO ?_ | (refine isBin ?_; first | refine uIb ?_ | refine uCat ?_ | refine uBb true ?_ | refine uBb false ?_ | refine uP ?_ | refine uEq true ?_ | refine uEq false ?_) | (refine isLd ?_; first | refine uLp ?_ | refine uLb ?_ | refine uL1 ?_ | refine uL2 ?_ | refine uP ?_) | (refine isCl ?_; first | refine uC (hQ) ?_ | refine uP ?_) | (refine isFa ?_; first | refine uP ?_) | refine uX ?_ | refine uP ?_ | refine uBx ?_ | refine uN ?_) | refine W_block ?_ | refine W_cond true (by rfl) (fun _ => ?_) (fun h => by cases h) | refine W_cond false (by rfl) (fun h => by cases h) (fun _ => ?_) | (refine W_skip ?_; (first | change W _ _ _ _ _ | change EndQ _ _ _ _ _ _ | change Exists _ | change EndG _ _ _ _ _ _ _ _ _ _ | change EndM _ _ _ _ _ _ _ | skip)) | (refine W_exit ?_; (first | change W _ _ _ _ _ | change EndQ _ _ _ _ _ _ | change Exists _ | change EndG _ _ _ _ _ _ _ _ _ _ | change EndM _ _ _ _ _ _ _ | skip)) | (refine W_ret ?_; (first | change W _ _ _ _ _ | change EndQ _ _ _ _ _ _ | change Exists _ | change EndG _ _ _ _ _ _ _ _ _ _ | change EndM _ _ _ _ _ _ _ | skip)))
        exact ⟨(k + 1, if 1000000 < lo + a then 1000000 else lo + a, if 1000000 < hi + b then 1000000 else hi + b), by simp only; omega, ⟨hlt, hlow, hhigh⟩, (by (repeat (first | exact sub_nil _ | refine sub_cons (by rfl) ?_))), (by (repeat (first | exact sub_nil _ | refine sub_cons (by rfl) ?_)))⟩
      · have hhigh := hi_and' hhi hb hc
        rw [← hst] at hhigh
        by_cases hc1 : 0 ≤ hi
        · have hc2 : ¬ 0 ≤ b := fun h => hc ⟨hc1, h⟩
          repeat (first | refine W_seq ?_ | refine W_region ?_ | (refine RL_nil ?_; (first | change W _ _ _ _ _ | change EndQ _ _ _ _ _ _ | change Exists _ | change EndG _ _ _ _ _ _ _ _ _ _ | change EndM _ _ _ _ _ _ _ | skip)) | (refine isRL ?_; first | refine uMv ?_ | refine uAs ?_ | refine uO ?_ | (refine isBin ?_; first | refine uIb ?_ | refine uCat ?_ | refine uBb true ?_ | refine uBb false ?_ | refine uP ?_ | refine uEq true ?_ | refine uEq false ?_) | (refine isLd ?_; first | refine uLp ?_ | refine uLb ?_ | refine uL1 ?_ | refine uL2 ?_ | refine uP ?_) | (refine isCl ?_; first | refine uC (hQ) ?_ | refine uP ?_) | (refine isFa ?_; first | refine uP ?_) | refine uX ?_ | refine uP ?_ | refine uBx ?_ | refine uN ?_) | refine W_block ?_ | refine W_cond true (by rfl) (fun _ => ?_) (fun h => by cases h) | refine W_cond false (by rfl) (fun h => by cases h) (fun _ => ?_) | (refine W_skip ?_; (first | change W _ _ _ _ _ | change EndQ _ _ _ _ _ _ | change Exists _ | change EndG _ _ _ _ _ _ _ _ _ _ | change EndM _ _ _ _ _ _ _ | skip)) | (refine W_exit ?_; (first | change W _ _ _ _ _ | change EndQ _ _ _ _ _ _ | change Exists _ | change EndG _ _ _ _ _ _ _ _ _ _ | change EndM _ _ _ _ _ _ _ | skip)) | (refine W_ret ?_; (first | change W _ _ _ _ _ | change EndQ _ _ _ _ _ _ | change Exists _ | change EndG _ _ _ _ _ _ _ _ _ _ | change EndM _ _ _ _ _ _ _ | skip)))
          exact ⟨(k + 1, if 1000000 < lo + a then 1000000 else lo + a, -1), by simp only; omega, ⟨hlt, hlow, hhigh⟩, (by (repeat (first | exact sub_nil _ | refine sub_cons (by rfl) ?_))), (by (repeat (first | exact sub_nil _ | refine sub_cons (by rfl) ?_)))⟩
        · repeat (first | refine W_seq ?_ | refine W_region ?_ | (refine RL_nil ?_; (first | change W _ _ _ _ _ | change EndQ _ _ _ _ _ _ | change Exists _ | change EndG _ _ _ _ _ _ _ _ _ _ | change EndM _ _ _ _ _ _ _ | skip)) | (refine isRL ?_; first | refine uMv ?_ | refine uAs ?_ | refine uO ?_ | (refine isBin ?_; first | refine uIb ?_ | refine uCat ?_ | refine uBb true ?_ | refine uBb false ?_ | refine uP ?_ | refine uEq true ?_ | refine uEq false ?_) | (refine isLd ?_; first | refine uLp ?_ | refine uLb ?_ | refine uL1 ?_ | refine uL2 ?_ | refine uP ?_) | (refine isCl ?_; first | refine uC (hQ) ?_ | refine uP ?_) | (refine isFa ?_; first | refine uP ?_) | refine uX ?_ | refine uP ?_ | refine uBx ?_ | refine uN ?_) | refine W_block ?_ | refine W_cond true (by rfl) (fun _ => ?_) (fun h => by cases h) | refine W_cond false (by rfl) (fun h => by cases h) (fun _ => ?_) | (refine W_skip ?_; (first | change W _ _ _ _ _ | change EndQ _ _ _ _ _ _ | change Exists _ | change EndG _ _ _ _ _ _ _ _ _ _ | change EndM _ _ _ _ _ _ _ | skip)) | (refine W_exit ?_; (first | change W _ _ _ _ _ | change EndQ _ _ _ _ _ _ | change Exists _ | change EndG _ _ _ _ _ _ _ _ _ _ | change EndM _ _ _ _ _ _ _ | skip)) | (refine W_ret ?_; (first | change W _ _ _ _ _ | change EndQ _ _ _ _ _ _ | change Exists _ | change EndG _ _ _ _ _ _ _ _ _ _ | change EndM _ _ _ _ _ _ _ | skip)))
          exact ⟨(k + 1, if 1000000 < lo + a then 1000000 else lo + a, -1), by simp only; omega, ⟨hlt, hlow, hhigh⟩, (by (repeat (first | exact sub_nil _ | refine sub_cons (by rfl) ?_))), (by (repeat (first | exact sub_nil _ | refine sub_cons (by rfl) ?_)))⟩
    · rw [← ha, ← hb] at hQ
      by_cases hk0 : k = 0
      · subst hk0
        have hst := st_alt0 k4 hq
        repeat (first | refine W_seq ?_ | refine W_region ?_ | (refine RL_nil ?_; (first | change W _ _ _ _ _ | change EndQ _ _ _ _ _ _ | change Exists _ | change EndG _ _ _ _ _ _ _ _ _ _ | change EndM _ _ _ _ _ _ _ | skip)) | (refine isRL ?_; first | refine uMv ?_ | refine uAs ?_ | refine uO ?_ | (refine isBin ?_; first | refine uIb ?_ | refine uCat ?_ | refine uBb true ?_ | refine uBb false ?_ | refine uP ?_ | refine uEq true ?_ | refine uEq false ?_) | (refine isLd ?_; first | refine uLp ?_ | refine uLb ?_ | refine uL1 ?_ | refine uL2 ?_ | refine uP ?_) | (refine isCl ?_; first | refine uC (hQ) ?_ | refine uP ?_) | (refine isFa ?_; first | refine uP ?_) | refine uX ?_ | refine uP ?_ | refine uBx ?_ | refine uN ?_) | refine W_block ?_ | refine W_cond true (by rfl) (fun _ => ?_) (fun h => by cases h) | refine W_cond false (by rfl) (fun h => by cases h) (fun _ => ?_) | (refine W_skip ?_; (first | change W _ _ _ _ _ | change EndQ _ _ _ _ _ _ | change Exists _ | change EndG _ _ _ _ _ _ _ _ _ _ | change EndM _ _ _ _ _ _ _ | skip)) | (refine W_exit ?_; (first | change W _ _ _ _ _ | change EndQ _ _ _ _ _ _ | change Exists _ | change EndG _ _ _ _ _ _ _ _ _ _ | change EndM _ _ _ _ _ _ _ | skip)) | (refine W_ret ?_; (first | change W _ _ _ _ _ | change EndQ _ _ _ _ _ _ | change Exists _ | change EndG _ _ _ _ _ _ _ _ _ _ | change EndM _ _ _ _ _ _ _ | skip)))
        exact ⟨(0 + 1, a, b), by simp only; omega, ⟨hlt, by rw [hst]; exact ha, by rw [hst]; exact hb⟩, (by (repeat (first | exact sub_nil _ | refine sub_cons (by rfl) ?_))), (by (repeat (first | exact sub_nil _ | refine sub_cons (by rfl) ?_)))⟩
      · have hst := st_alt k4 hk0 hq
        have hlow := lo_or hlo ha
        rw [← hst] at hlow
        by_cases hc : 0 ≤ hi ∧ 0 ≤ b
        · obtain ⟨hc1, hc2⟩ := hc
          have hhigh := hi_or hhi hb ⟨hc1, hc2⟩
          rw [← hst] at hhigh
          repeat (first | refine W_seq ?_ | refine W_region ?_ | (refine RL_nil ?_; (first | change W _ _ _ _ _ | change EndQ _ _ _ _ _ _ | change Exists _ | change EndG _ _ _ _ _ _ _ _ _ _ | change EndM _ _ _ _ _ _ _ | skip)) | (refine isRL ?_; first | refine uMv ?_ | refine uAs ?_ | refine uO ?_ | (refine isBin ?_; first | refine uIb ?_ | refine uCat ?_ | refine uBb true ?_ | refine uBb false ?_ | refine uP ?_ | refine uEq true ?_ | refine uEq false ?_) | (refine isLd ?_; first | refine uLp ?_ | refine uLb ?_ | refine uL1 ?_ | refine uL2 ?_ | refine uP ?_) | (refine isCl ?_; first | refine uC (hQ) ?_ | refine uP ?_) | (refine isFa ?_; first | refine uP ?_) | refine uX ?_ | refine uP ?_ | refine uBx ?_ | refine uN ?_) | refine W_block ?_ | refine W_cond true (by rfl) (fun _ => ?_) (fun h => by cases h) | refine W_cond false (by rfl) (fun h => by cases h) (fun _ => ?_) | (refine W_skip ?_; (first | change W _ _ _ _ _ | change EndQ _ _ _ _ _ _ | change Exists _ | change EndG _ _ _ _ _ _ _ _ _ _ | change EndM _ _ _ _ _ _ _ | skip)) | (refine W_exit ?_; (first | change W _ _ _ _ _ | change EndQ _ _ _ _ _ _ | change Exists _ | change EndG _ _ _ _ _ _ _ _ _ _ | change EndM _ _ _ _ _ _ _ | skip)) | (refine W_ret ?_; (first | change W _ _ _ _ _ | change EndQ _ _ _ _ _ _ | change Exists _ | change EndG _ _ _ _ _ _ _ _ _ _ | change EndM _ _ _ _ _ _ _ | skip)))
          exact ⟨(k + 1, if a < lo then a else lo, if b > hi then b else hi), by simp only; omega, ⟨hlt, hlow, hhigh⟩, (by (repeat (first | exact sub_nil _ | refine sub_cons (by rfl) ?_))), (by (repeat (first | exact sub_nil _ | refine sub_cons (by rfl) ?_)))⟩
        · have hhigh := hi_or' hhi hb hc
          rw [← hst] at hhigh
          by_cases hc1 : 0 ≤ hi
          · have hc2 : ¬ 0 ≤ b := fun h => hc ⟨hc1, h⟩
            repeat (first | refine W_seq ?_ | refine W_region ?_ | (refine RL_nil ?_; (first | change W _ _ _ _ _ | change EndQ _ _ _ _ _ _ | change Exists _ | change EndG _ _ _ _ _ _ _ _ _ _ | change EndM _ _ _ _ _ _ _ | skip)) | (refine isRL ?_; first | refine uMv ?_ | refine uAs ?_ | refine uO ?_ | (refine isBin ?_; first | refine uIb ?_ | refine uCat ?_ | refine uBb true ?_ | refine uBb false ?_ | refine uP ?_ | refine uEq true ?_ | refine uEq false ?_) | (refine isLd ?_; first | refine uLp ?_ | refine uLb ?_ | refine uL1 ?_ | refine uL2 ?_ | refine uP ?_) | (refine isCl ?_; first | refine uC (hQ) ?_ | refine uP ?_) | (refine isFa ?_; first | refine uP ?_) | refine uX ?_ | refine uP ?_ | refine uBx ?_ | refine uN ?_) | refine W_block ?_ | refine W_cond true (by rfl) (fun _ => ?_) (fun h => by cases h) | refine W_cond false (by rfl) (fun h => by cases h) (fun _ => ?_) | (refine W_skip ?_; (first | change W _ _ _ _ _ | change EndQ _ _ _ _ _ _ | change Exists _ | change EndG _ _ _ _ _ _ _ _ _ _ | change EndM _ _ _ _ _ _ _ | skip)) | (refine W_exit ?_; (first | change W _ _ _ _ _ | change EndQ _ _ _ _ _ _ | change Exists _ | change EndG _ _ _ _ _ _ _ _ _ _ | change EndM _ _ _ _ _ _ _ | skip)) | (refine W_ret ?_; (first | change W _ _ _ _ _ | change EndQ _ _ _ _ _ _ | change Exists _ | change EndG _ _ _ _ _ _ _ _ _ _ | change EndM _ _ _ _ _ _ _ | skip)))
            exact ⟨(k + 1, if a < lo then a else lo, -1), by simp only; omega, ⟨hlt, hlow, hhigh⟩, (by (repeat (first | exact sub_nil _ | refine sub_cons (by rfl) ?_))), (by (repeat (first | exact sub_nil _ | refine sub_cons (by rfl) ?_)))⟩
          · repeat (first | refine W_seq ?_ | refine W_region ?_ | (refine RL_nil ?_; (first | change W _ _ _ _ _ | change EndQ _ _ _ _ _ _ | change Exists _ | change EndG _ _ _ _ _ _ _ _ _ _ | change EndM _ _ _ _ _ _ _ | skip)) | (refine isRL ?_; first | refine uMv ?_ | refine uAs ?_ | refine uO ?_ | (refine isBin ?_; first | refine uIb ?_ | refine uCat ?_ | refine uBb true ?_ | refine uBb false ?_ | refine uP ?_ | refine uEq true ?_ | refine uEq false ?_) | (refine isLd ?_; first | refine uLp ?_ | refine uLb ?_ | refine uL1 ?_ | refine uL2 ?_ | refine uP ?_) | (refine isCl ?_; first | refine uC (hQ) ?_ | refine uP ?_) | (refine isFa ?_; first | refine uP ?_) | refine uX ?_ | refine uP ?_ | refine uBx ?_ | refine uN ?_) | refine W_block ?_ | refine W_cond true (by rfl) (fun _ => ?_) (fun h => by cases h) | refine W_cond false (by rfl) (fun h => by cases h) (fun _ => ?_) | (refine W_skip ?_; (first | change W _ _ _ _ _ | change EndQ _ _ _ _ _ _ | change Exists _ | change EndG _ _ _ _ _ _ _ _ _ _ | change EndM _ _ _ _ _ _ _ | skip)) | (refine W_exit ?_; (first | change W _ _ _ _ _ | change EndQ _ _ _ _ _ _ | change Exists _ | change EndG _ _ _ _ _ _ _ _ _ _ | change EndM _ _ _ _ _ _ _ | skip)) | (refine W_ret ?_; (first | change W _ _ _ _ _ | change EndQ _ _ _ _ _ _ | change Exists _ | change EndG _ _ _ _ _ _ _ _ _ _ | change EndM _ _ _ _ _ _ _ | skip)))
            exact ⟨(k + 1, if a < lo then a else lo, -1), by simp only; omega, ⟨hlt, hlow, hhigh⟩, (by (repeat (first | exact sub_nil _ | refine sub_cons (by rfl) ?_))), (by (repeat (first | exact sub_nil _ | refine sub_cons (by rfl) ?_)))⟩
    · obtain ⟨⟨c, hc, _⟩, h1, h2, h3⟩ := right_quant h k5
      have hk0 : k = 0 := by rw [hc] at hlt; simp at hlt; omega
      subst hk0
      have hst := st_q h k5 hq
      have hT1 := rlow_v (lenP q) hokq p.min p.max ⟨h1, h2⟩
      have hT2 := rhigh_v (lenP q) hokq p.min p.max (by omega)
      rw [← hst] at hT1 hT2
      repeat (first | refine W_seq ?_ | refine W_region ?_ | (refine RL_nil ?_; (first | change W _ _ _ _ _ | change EndQ _ _ _ _ _ _ | change Exists _ | change EndG _ _ _ _ _ _ _ _ _ _ | change EndM _ _ _ _ _ _ _ | skip)) | (refine isRL ?_; first | refine uMv ?_ | refine uAs ?_ | refine uO ?_ | (refine isBin ?_; first | refine uIb ?_ | refine uCat ?_ | refine uBb true ?_ | refine uBb false ?_ | refine uP ?_ | refine uEq true ?_ | refine uEq false ?_) | (refine isLd ?_; first | refine uLp ?_ | refine uLb ?_ | refine uL1 ?_ | refine uL2 ?_ | refine uP ?_) | (refine isCl ?_; first | refine uC (hQ) ?_ | refine uC (hT1) ?_ | refine uC (hT2) ?_ | refine uP ?_) | (refine isFa ?_; first | refine uP ?_) | refine uX ?_ | refine uP ?_ | refine uBx ?_ | refine uN ?_) | refine W_block ?_ | refine W_cond true (by rfl) (fun _ => ?_) (fun h => by cases h) | refine W_cond false (by rfl) (fun h => by cases h) (fun _ => ?_) | (refine W_skip ?_; (first | change W _ _ _ _ _ | change EndQ _ _ _ _ _ _ | change Exists _ | change EndG _ _ _ _ _ _ _ _ _ _ | change EndM _ _ _ _ _ _ _ | skip)) | (refine W_exit ?_; (first | change W _ _ _ _ _ | change EndQ _ _ _ _ _ _ | change Exists _ | change EndG _ _ _ _ _ _ _ _ _ _ | change EndM _ _ _ _ _ _ _ | skip)) | (refine W_ret ?_; (first | change W _ _ _ _ _ | change EndQ _ _ _ _ _ _ | change Exists _ | change EndG _ _ _ _ _ _ _ _ _ _ | change EndM _ _ _ _ _ _ _ | skip)))
      exact ⟨(0 + 1, _, _), by simp only; omega, ⟨hlt, rfl, rfl⟩, (by (repeat (first | exact sub_nil _ | refine sub_cons (by rfl) ?_))), (by (repeat (first | exact sub_nil _ | refine sub_cons (by rfl) ?_)))⟩
  · have hkl : k = p.kids.length := by omega
    subst hkl
    rw [st_end h k1 k2] at hlo hhi
    repeat (first | refine W_seq ?_ | refine W_region ?_ | (refine RL_nil ?_; (first | change W _ _ _ _ _ | change EndQ _ _ _ _ _ _ | change Exists _ | change EndG _ _ _ _ _ _ _ _ _ _ | change EndM _ _ _ _ _ _ _ | skip)) | (refine isRL ?_; first | refine uMv ?_ | refine uAs ?_ | refine uO ?_ | (refine isBin ?_; first | refine uIb ?_ | refine uCat ?_ | refine uBb true ?_ | refine uBb false ?_ | refine uP ?_ | refine uEq true ?_ | refine uEq false ?_) | (refine isLd ?_; first | refine uLp ?_ | refine uLb ?_ | refine uL1 ?_ | refine uL2 ?_ | refine uP ?_) | (refine isCl ?_; first | refine uP ?_) | (refine isFa ?_; first | refine uP ?_) | refine uX ?_ | refine uP ?_ | refine uBx ?_ | refine uN ?_) | refine W_block ?_ | refine W_cond true (by rfl) (fun _ => ?_) (fun h => by cases h) | refine W_cond false (by rfl) (fun h => by cases h) (fun _ => ?_) | (refine W_skip ?_; (first | change W _ _ _ _ _ | change EndQ _ _ _ _ _ _ | change Exists _ | change EndG _ _ _ _ _ _ _ _ _ _ | change EndM _ _ _ _ _ _ _ | skip)) | (refine W_exit ?_; (first | change W _ _ _ _ _ | change EndQ _ _ _ _ _ _ | change Exists _ | change EndG _ _ _ _ _ _ _ _ _ _ | change EndM _ _ _ _ _ _ _ | skip)) | (refine W_ret ?_; (first | change W _ _ _ _ _ | change EndQ _ _ _ _ _ _ | change Exists _ | change EndG _ _ _ _ _ _ _ _ _ _ | change EndM _ _ _ _ _ _ _ | skip)))
    rw [hlo, hhi]
    exact end_r (by rfl) rfl
end Go.Proofs.Ytgdgcloenhnbiaa
