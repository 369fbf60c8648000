/- Plain laws of expressions: not, and, or; what holds; what spoils. -/
import Derived.Test.YtjhkehloipmjfaaEN
namespace Go.Proofs.Ytjhkehloipmjfaa
theorem right1 {s : ByteArray} (hk : opKids s = 1) {e : E} (hr : rightE e = true) (hd : dE e ≤ 49) : exprRight (eOp s [e]) = true := by
  rw [exprRight_dE, dE_op1, right_op _ _ (by rw [hk]; decide) hk]
  simp [hr, hd]
theorem right2 {s : ByteArray} (hk : opKids s = 2) {a b : E} (ha : rightE a = true) (hb : rightE b = true) (hda : dE a ≤ 49) (hdb : dE b ≤ 49) : exprRight (eOp s [a, b]) = true := by
  rw [exprRight_dE, dE_op2, right_op _ _ (by rw [hk]; decide) hk]
  simp [ha, hb]; omega
theorem rightE_of {e : E} (h : exprRight e = true) : rightE e = true := by
  rw [exprRight_dE, Bool.and_eq_true] at h; exact h.2
theorem rightE1 {s : ByteArray} (hk : opKids s = 1) {e : E} (hr : rightE e = true) : rightE (eOp s [e]) = true := by
  rw [right_op _ _ (by rw [hk]; decide) hk]; simp [hr]
theorem rightE2 {s : ByteArray} (hk : opKids s = 2) {a b : E} (ha : rightE a = true) (hb : rightE b = true) : rightE (eOp s [a, b]) = true := by
  rw [right_op _ _ (by rw [hk]; decide) hk]; simp [ha, hb]
theorem eval_not (ps : List Pr) (d : E) : evalE ps (eOp nNot [d]) = match evalE ps d with
    | none => none
    | some r => if ofE r.1 = 4 then none else some (valT (notT (ofT r.1)), r.2) := by
  rw [eval_op1]
  cases evalE ps d with
  | none => rfl
  | some r =>
    simp only [Option.bind_some]
    rw [opR_not]
    split
    · rfl
    · simp
theorem eval_and (ps : List Pr) (d e : E) : evalE ps (eOp nAnd [d, e]) = match evalE ps d, evalE ps e with
    | some r, some q => if ofE r.1 = 4 ∨ ofE q.1 = 4 then none else some (valT (andL [ofT r.1, ofT q.1] 1), r.2 || q.2)
    | _, _ => none := by
  rw [eval_op2]
  cases evalE ps d with
  | none => rfl
  | some r =>
    cases evalE ps e with
    | none => rfl
    | some q =>
      simp only [Option.bind_some]
      rw [opR_and]
      split
      · rfl
      · simp
theorem eval_or (ps : List Pr) (d e : E) : evalE ps (eOp nOr [d, e]) = match evalE ps d, evalE ps e with
    | some r, some q => if ofE r.1 = 4 ∨ ofE q.1 = 4 then none else some (valT (notT (andL [notT (ofT r.1), notT (ofT q.1)] 1)), r.2 || q.2)
    | _, _ => none := by
  rw [eval_op2]
  cases evalE ps d with
  | none => rfl
  | some r =>
    cases evalE ps e with
    | none => rfl
    | some q =>
      simp only [Option.bind_some]
      rw [opR_or]
      split
      · rfl
      · simp
theorem eval_null (ps : List Pr) (d : E) : evalE ps (eOp nNull [d]) = (evalE ps d).map fun r => (valT (if r.1.kind = 0 then 1 else 0), r.2) := by
  rw [eval_op1]
  cases evalE ps d with
  | none => rfl
  | some r =>
    simp only [Option.bind_some]
    rw [opR_null]
    simp
/-! ### ExprNots -/
theorem nots_one {ps : List Pr} (hp : ∀ p ∈ ps, proper p.val) {d : E} (hd : exprRight d = true) (dd : dE d ≤ 45) :
    ((evalR ps (eOp nNot [eOp nNot [d]])).2 ≠ 0 → (evalR ps (eOp nNot [eOp nNot [d]])).2 = (evalR ps d).2 ∨ (evalR ps (eOp nNot [eOp nNot [d]])).2 = 4) ∧
    ((evalR ps (eOp nNot [eOp nNot [d]])).2 = 0 → (evalR ps d).2 = 0 ∧ sameV (evalR ps (eOp nNot [eOp nNot [d]])).1 (evalR ps d).1 = true) := by
  have hr := rightE_of hd
  rw [evalR_right hd, evalR_right (right1 opKids_not (rightE1 opKids_not hr) (by rw [dE_op1]; omega)), eval_not, eval_not]
  cases hD : evalE ps d with
  | none => exact ⟨fun _ => .inl rfl, fun h => absurd h (by decide)⟩
  | some r =>
    have hpr := proper_eval hp hr hD
    simp only
    by_cases h4 : ofE r.1 = 4
    · rw [if_pos h4]
      exact ⟨fun _ => .inr rfl, fun h => absurd h (by decide)⟩
    · rw [if_neg h4]
      simp only
      obtain ⟨q1, q2⟩ := ofT_valT (notT_isT (ofT r.1))
      rw [q2, if_neg (by decide), q1, notnot (ofT_isT r.1)]
      simp only
      cases h2 : r.2
      · exact ⟨fun h => absurd rfl h, fun _ => ⟨rfl, same_truth hpr h4⟩⟩
      · exact ⟨fun _ => .inl rfl, fun h => absurd h (show (7 : Int) ≠ 0 by decide)⟩
theorem nots_two {ps : List Pr} {d e : E} (hd : exprRight d = true) (dd : dE d ≤ 45) (he : exprRight e = true) (de : dE e ≤ 45) :
    evalR ps (eOp nNot [eOp nAnd [d, e]]) = evalR ps (eOp nOr [eOp nNot [d], eOp nNot [e]]) := by
  have h1 := rightE_of hd
  have h2 := rightE_of he
  rw [evalR_right (right1 opKids_not (rightE2 opKids_and h1 h2) (by rw [dE_op2]; omega)), evalR_right (right2 opKids_or (rightE1 opKids_not h1) (rightE1 opKids_not h2) (by rw [dE_op1]; omega) (by rw [dE_op1]; omega)), eval_not, eval_and, eval_or, eval_not, eval_not]
  cases evalE ps d with
  | none => rfl
  | some r =>
    cases evalE ps e with
    | none =>
      simp only
      by_cases h4 : ofE r.1 = 4
      · rw [if_pos h4]
      · rw [if_neg h4]
    | some q =>
      simp only
      by_cases h4 : ofE r.1 = 4
      · rw [if_pos (.inl h4), if_pos h4]
      · by_cases h5 : ofE q.1 = 4
        · rw [if_pos (.inr h5), if_neg h4, if_pos h5]
        · rw [if_neg (fun h => h.elim h4 h5), if_neg h4, if_neg h5]
          simp only
          obtain ⟨a1, a2⟩ := ofT_valT (notT_isT (ofT r.1))
          obtain ⟨b1, b2⟩ := ofT_valT (notT_isT (ofT q.1))
          obtain ⟨c1, c2⟩ := ofT_valT (and_isT (ofT r.1) (ofT q.1))
          rw [a1, a2, b1, b2, c1, c2, if_neg (by decide), if_neg (by decide), notnot (ofT_isT r.1), notnot (ofT_isT q.1)]
/-! ### ExprHolds -/
theorem holds_law {ps : List Pr} {e : E} (he : exprRight e = true) (de : dE e ≤ 49) (h0 : (holdsR ps e).2 = 0) : ∃ t : Int, isT t ∧ holdsR ps e = (t == 1, 0) ∧ holdsR ps (eOp nNot [e]) = (t == 0, 0) ∧ holdsR ps (eOp nNull [e]) = (t == 2, 0) := by
  have hr := rightE_of he
  have hk : e.kind ≠ 0 := fun hk => by
    rw [rightE_eq, if_neg (by omega), if_neg (by omega), if_neg (by omega)] at hr; cases hr
  have hk1 : ∀ s, (eOp s [e]).kind ≠ 0 := fun s => show (3 : Int) ≠ 0 by decide
  unfold holdsR at h0 ⊢
  rw [if_neg hk] at h0 ⊢
  rw [if_neg (hk1 _), if_neg (hk1 _)]
  rw [evalR_right he] at h0 ⊢
  rw [evalR_right (right1 opKids_not hr de), evalR_right (right1 opKids_null hr de), eval_not, eval_null]
  cases hD : evalE ps e with
  | none => rw [hD] at h0; exact absurd h0 (by decide)
  | some r =>
    rw [hD] at h0
    simp only at h0 ⊢
    obtain ⟨v, o⟩ := r
    cases o with
    | true => exact absurd h0 (show (7 : Int) ≠ 0 by decide)
    | false =>
      simp only [Bool.false_eq_true, if_false, ne_eq, not_true_eq_false] at h0 ⊢
      have h4 : ofE v ≠ 4 := fun h => by rw [h] at h0; exact absurd h0 (by decide)
      rw [if_neg h4]
      simp only [Bool.false_eq_true, if_false, Option.map_some]
      obtain ⟨q1, q2⟩ := ofT_valT (notT_isT (ofT v))
      have hnull : isT (if v.kind = 0 then (1 : Int) else 0) := by split <;> simp [isT]
      obtain ⟨c1, c2⟩ := ofT_valT hnull
      refine ⟨ofT v, ofT_isT v, by simp [h0], ?_, ?_⟩
      · simp only [not_true_eq_false, if_false]
        rw [q1, q2]
        rcases ofT_isT v with h | h | h <;> rw [h] <;> rfl
      · simp only [not_true_eq_false, if_false]
        rw [c1, c2]
        have : (v.kind = 0) ↔ ofT v = 2 := by
          unfold ofE at h4
          unfold ofT
          by_cases h : v.kind = 0
          · rw [if_pos h]; simp [h]
          · rw [if_neg h] at h4 ⊢
            by_cases h' : v.kind = 1 ∧ (v.n = 0 ∨ v.n = 1)
            · rw [if_pos h']; simp [h]; omega
            · rw [if_neg h'] at h4; exact absurd rfl h4
        by_cases h : v.kind = 0
        · rw [if_pos h, this.1 h]; rfl
        · rw [if_neg h]
          have : ofT v ≠ 2 := fun e => h (this.2 e)
          simp [this]
theorem holds_off {ps : List Pr} {e : E} (h : (holdsR ps e).2 ≠ 0) : (holdsR ps e).1 = false := by
  unfold holdsR at h ⊢
  split at h
  · exact absurd rfl h
  · rename_i hk
    rw [if_neg hk]
    split at h
    · rename_i h2; rw [if_pos h2]
    · rename_i h2
      rw [if_neg h2]
      simp only at h ⊢
      unfold ofE at h
      unfold ofT
      by_cases h0 : (evalR ps e).1.kind = 0
      · rw [if_pos h0] at h; exact absurd rfl h
      · rw [if_neg h0] at h ⊢
        by_cases h1 : (evalR ps e).1.kind = 1 ∧ ((evalR ps e).1.n = 0 ∨ (evalR ps e).1.n = 1)
        · rw [if_pos h1] at h; exact absurd rfl h
        · rw [if_neg h1]; rfl
/-! ### ExprErrors -/
def eBool : E := ⟨1, ⟨#[]⟩, ⟨1, 1, 0, ⟨#[]⟩⟩, []⟩
def eOver : E := eOp nAdd [eInt big, eInt 1]
def eWrong : E := eOp nAdd [eInt 1, eBool]
theorem right_bool : rightE eBool = true := by
  have h : rightE eBool = (emptyS ⟨#[]⟩ && true && valueRight ⟨1, 1, 0, ⟨#[]⟩⟩) := by rw [rightE_eq]; rfl
  have h2 : valueRight ⟨1, 1, 0, ⟨#[]⟩⟩ = (((1 : Int) == 0 || (1 : Int) == 1) && emptyS ⟨#[]⟩ && (0 : Nat) == 0) := rfl
  rw [h, h2, emptyS_nil]; rfl
theorem right_wrong : rightE eWrong = true := rightE2 opKids_add (right_int 1) right_bool
theorem wrong_eval (ps : List Pr) : evalE ps eWrong = none := by
  unfold eWrong
  rw [eval_op2, eval_int]
  have hb : evalE ps eBool = some (⟨1, 1, 0, ⟨#[]⟩⟩, false) := by rw [evalE_eq]; rfl
  rw [hb]
  simp only [Option.bind_some]
  rw [opR_add]
  have hr2 : valueRight ⟨1, 1, 0, ⟨#[]⟩⟩ = true := by
    have h2 : valueRight ⟨1, 1, 0, ⟨#[]⟩⟩ = (((1 : Int) == 0 || (1 : Int) == 1) && emptyS ⟨#[]⟩ && (0 : Nat) == 0) := rfl
    rw [h2, emptyS_nil]; rfl
  have hr1 : valueRight ⟨2, 1, 0, ⟨#[]⟩⟩ = true := right_iv 1
  have : (reckonR 0 ⟨2, 1, 0, ⟨#[]⟩⟩ ⟨1, 1, 0, ⟨#[]⟩⟩).2 = 4 := by
    unfold reckonR
    rw [if_neg (by rw [hr1, hr2]; decide), if_neg (by decide), if_pos (.inr (by decide))]
  rw [if_pos this]; rfl
theorem dE_over : dE eOver = 2 := by unfold eOver; rw [dE_op2, dE_int, dE_int]; rfl
theorem dE_wrong : dE eWrong = 2 := by
  have : dE eBool = 1 := by rw [dE_eq]; rfl
  unfold eWrong; rw [dE_op2, dE_int, this]; rfl
/-- whichever of both operators it is -/
def isAO (s : ByteArray) : Prop := s = nAnd ∨ s = nOr
theorem isAO.kids {s : ByteArray} (h : isAO s) : opKids s = 2 := by rcases h with rfl | rfl <;> first | exact opKids_and | exact opKids_or
theorem eval_ao {s : ByteArray} (h : isAO s) (ps : List Pr) (d e : E) : ∃ g : Int → Int → Int, evalE ps (eOp s [d, e]) = match evalE ps d, evalE ps e with
    | some r, some q => if ofE r.1 = 4 ∨ ofE q.1 = 4 then none else some (valT (g (ofT r.1) (ofT q.1)), r.2 || q.2)
    | _, _ => none := by
  rcases h with rfl | rfl
  · exact ⟨fun t u => andL [t, u] 1, eval_and ps d e⟩
  · exact ⟨fun t u => notT (andL [notT t, notT u] 1), eval_or ps d e⟩
theorem errors_f {s : ByteArray} (hs : isAO s) (ps : List Pr) {a : E} (ha : rightE a = true) (da : dE a ≤ 49) : (evalR ps (eOp s [a, eOp nNull [eWrong]])).2 = 4 := by
  rw [evalR_right (right2 hs.kids ha (rightE1 opKids_null right_wrong) da (by rw [dE_op1, dE_wrong]; omega))]
  obtain ⟨g, hg⟩ := eval_ao hs ps a (eOp nNull [eWrong])
  rw [hg, eval_null, wrong_eval]
  cases evalE ps a <;> rfl
theorem errors_g {s : ByteArray} (hs : isAO s) (ps : List Pr) {e : E} (he : exprRight e = true) (de : dE e ≤ 45) : (evalR ps (eOp s [eOp nNull [eOver], eOp nNull [e]])).2 = if (evalR ps e).2 = 4 then 4 else 7 := by
  have hr := rightE_of he
  have ho : rightE eOver = true := right_over
  rw [evalR_right (right2 hs.kids (rightE1 opKids_null ho) (rightE1 opKids_null hr) (by rw [dE_op1, dE_over]; omega) (by rw [dE_op1]; omega)), evalR_right he]
  obtain ⟨g, hg⟩ := eval_ao hs ps (eOp nNull [eOver]) (eOp nNull [e])
  have h1 : evalE ps eOver = some (zeroVal, true) := over_eval ps
  rw [hg, eval_null, eval_null, h1]
  cases evalE ps e with
  | none => rfl
  | some r =>
    have hT : ∀ b : Prop, [Decidable b] → isT (if b then (1 : Int) else 0) := fun b _ => by split <;> simp [isT]
    simp only [Option.map_some]
    rw [(ofT_valT (hT _)).2, (ofT_valT (hT _)).2, if_neg (by decide)]
    simp only [Bool.true_or, if_true]
    split <;> rfl
end Go.Proofs.Ytjhkehloipmjfaa
