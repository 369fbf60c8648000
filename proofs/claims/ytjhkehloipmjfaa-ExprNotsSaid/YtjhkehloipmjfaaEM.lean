/- Plain laws of an expression's value. -/
import Derived.Test.YtjhkehloipmjfaaEL
namespace Go.Proofs.Ytjhkehloipmjfaa
/-! ### names -/
def nNot : ByteArray := ⟨#[110, 111, 116]⟩
def nAnd : ByteArray := ⟨#[97, 110, 100]⟩
def nOr : ByteArray := ⟨#[111, 114]⟩
def nNull : ByteArray := ⟨#[105, 115, 110, 117, 108, 108]⟩
def nAdd : ByteArray := ⟨#[43]⟩
def nEq : ByteArray := ⟨#[61]⟩
def nLt : ByteArray := ⟨#[60]⟩
theorem oc_not : oc nNot = 2 := by unfold oc eqL nNot; simp only [ByteArray.toList_eq]; rfl
theorem oc_and : oc nAnd = 0 := by unfold oc eqL nAnd; simp only [ByteArray.toList_eq]; rfl
theorem oc_or : oc nOr = 1 := by unfold oc eqL nOr; simp only [ByteArray.toList_eq]; rfl
theorem oc_null : oc nNull = 3 := by unfold oc eqL nNull; simp only [ByteArray.toList_eq]; rfl
theorem oc_add : oc nAdd = 4 := by unfold oc eqL nAdd; simp only [ByteArray.toList_eq]; rfl
theorem oc_eq : oc nEq = 7 := by unfold oc eqL nEq; simp only [ByteArray.toList_eq]; rfl
theorem oc_lt : oc nLt = 7 := by unfold oc eqL nLt; simp only [ByteArray.toList_eq]; rfl
theorem opKids_not : opKids nNot = 1 := by unfold opKids eqL nNot; simp only [ByteArray.toList_eq]; rfl
theorem opKids_and : opKids nAnd = 2 := by unfold opKids eqL nAnd; simp only [ByteArray.toList_eq]; rfl
theorem opKids_or : opKids nOr = 2 := by unfold opKids eqL nOr; simp only [ByteArray.toList_eq]; rfl
theorem opKids_null : opKids nNull = 1 := by unfold opKids eqL nNull; simp only [ByteArray.toList_eq]; rfl
theorem opKids_add : opKids nAdd = 2 := by unfold opKids eqL nAdd; simp only [ByteArray.toList_eq]; rfl
theorem opKids_eq : opKids nEq = 2 := by unfold opKids eqL nEq; simp only [ByteArray.toList_eq]; rfl
theorem opKids_lt : opKids nLt = 2 := by unfold opKids eqL nLt; simp only [ByteArray.toList_eq]; rfl
/-! ### how deep -/
def dE : E → Nat := foldE fun _ ks => ks.foldl max 0 + 1
theorem dE_eq (e : E) : dE e = e.kids.foldl (fun d k => max d (dE k)) 0 + 1 := by
  unfold dE; rw [foldE_eq, List.foldl_map]
theorem foldl_min {α : Type} (f g : α → Nat) (n : Nat) : ∀ (l : List α) (a b : Nat), a = min b n → (∀ x ∈ l, f x = min (g x) n) → l.foldl (fun d k => max d (f k)) a = min (l.foldl (fun d k => max d (g k)) b) n
  | [], a, b, h, _ => h
  | x :: l, a, b, h, hx => by
    rw [List.foldl_cons, List.foldl_cons]
    refine foldl_min f g n l _ _ ?_ fun y hy => hx y (by simp [hy])
    rw [h, hx x (by simp)]
    omega
theorem dE_pos (e : E) : 0 < dE e := by rw [dE_eq]; omega
theorem depthE_dE : ∀ (n : Nat) (e : E), depthE n e = min (dE e) (n + 1)
  | 0, e => by rw [depthE_zero]; have := dE_pos e; omega
  | n + 1, e => by
    rw [depthE_succ, dE_eq]
    have := foldl_min (depthE n) dE (n + 1) e.kids 0 0 (by omega) fun x _ => depthE_dE n x
    omega
theorem exprRight_dE (e : E) : exprRight e = (decide (dE e ≤ 50) && rightE e) := by
  unfold exprRight
  rw [depthE_dE]
  congr 1
  rw [decide_eq_decide]; omega
theorem dE_op1 (s : ByteArray) (a : E) : dE (eOp s [a]) = dE a + 1 := by
  rw [dE_eq]
  show max 0 (dE a) + 1 = _
  omega
theorem dE_op2 (s : ByteArray) (a b : E) : dE (eOp s [a, b]) = max (dE a) (dE b) + 1 := by
  rw [dE_eq]
  show max (max 0 (dE a)) (dE b) + 1 = _
  omega
/-! ### what may be -/
theorem emptyS_nil : emptyS ⟨#[]⟩ = true := by unfold emptyS; rw [ByteArray.toList_eq]; rfl
theorem zeroV_zero : zeroV zeroVal = true := by
  unfold zeroV zeroVal
  rw [emptyS_nil]; decide
theorem right_op (s : ByteArray) (l : List E) (hk : opKids s > 0) (hl : opKids s = (l.length : Int)) : rightE (eOp s l) = l.all rightE := by
  rw [rightE_eq]
  unfold eOp
  simp only
  rw [if_neg (by decide), if_neg (by decide), if_pos trivial, zeroV_zero, decide_eq_true hk, decide_eq_true hl]
  rfl
theorem right_int (n : Int) : rightE (eInt n) = true := by
  rw [rightE_eq]
  unfold eInt
  simp only
  rw [if_pos trivial, emptyS_nil]
  have : valueRight ⟨2, n, 0, ⟨#[]⟩⟩ = (emptyS ⟨#[]⟩ && (0 : Nat) == 0) := rfl
  rw [this, emptyS_nil]; rfl
theorem right_prop (s : ByteArray) (h : emptyS s = false) : rightE (eProp s) = true := by
  rw [rightE_eq]
  unfold eProp
  simp only
  rw [if_neg (by decide), if_pos trivial, h, zeroV_zero]; rfl
/-! ### values -/
theorem eval_op (ps : List Pr) (s : ByteArray) (l : List E) : evalE ps (eOp s l) = match allS (l.map (evalE ps)) with
    | none => none
    | some rs => (opR s (rs.map (·.1))).map fun r => (r.1, rs.any (·.2) || r.2) := by
  rw [evalE_eq]
  unfold eOp
  simp only
  rw [if_neg (by decide), if_neg (by decide)]
  rfl
theorem eval_op1 (ps : List Pr) (s : ByteArray) (a : E) : evalE ps (eOp s [a]) = (evalE ps a).bind fun r => (opR s [r.1]).map fun q => (q.1, r.2 || q.2) := by
  rw [eval_op]
  simp only [List.map_cons, List.map_nil]
  cases evalE ps a with
  | none => rfl
  | some r => simp [allS]
theorem eval_op2 (ps : List Pr) (s : ByteArray) (a b : E) : evalE ps (eOp s [a, b]) = (evalE ps a).bind fun r => (evalE ps b).bind fun r' => (opR s [r.1, r'.1]).map fun q => (q.1, (r.2 || r'.2) || q.2) := by
  rw [eval_op]
  simp only [List.map_cons, List.map_nil]
  cases evalE ps a with
  | none => rfl
  | some r => cases evalE ps b with
    | none => rfl
    | some r' => simp [allS]
theorem eval_int (ps : List Pr) (n : Int) : evalE ps (eInt n) = some (⟨2, n, 0, ⟨#[]⟩⟩, false) := by
  rw [evalE_eq]; unfold eInt; simp
theorem eval_prop (ps : List Pr) (s : ByteArray) : evalE ps (eProp s) = some (look1 ps s, false) := by
  rw [evalE_eq]; unfold eProp; simp
theorem opR_not (a : Val) : opR nNot [a] = if ofE a = 4 then none else some (valT (notT (ofT a)), false) := by
  unfold opR; rw [oc_not]
  by_cases h : ofE a = 4
  · simp [h]
  · simp [h]
theorem opR_and (a b : Val) : opR nAnd [a, b] = if ofE a = 4 ∨ ofE b = 4 then none else some (valT (andL [ofT a, ofT b] 1), false) := by
  unfold opR; rw [oc_and]
  by_cases h : ofE a = 4
  · simp [h]
  · by_cases h' : ofE b = 4
    · simp [h, h']
    · simp [h, h']
theorem opR_or (a b : Val) : opR nOr [a, b] = if ofE a = 4 ∨ ofE b = 4 then none else some (valT (notT (andL [notT (ofT a), notT (ofT b)] 1)), false) := by
  unfold opR; rw [oc_or]
  by_cases h : ofE a = 4
  · simp [h]
  · by_cases h' : ofE b = 4
    · simp [h, h']
    · simp [h, h']
theorem opR_null (a : Val) : opR nNull [a] = some (valT (if a.kind = 0 then 1 else 0), false) := by
  unfold opR; rw [oc_null]; rfl
theorem opR_add (a b : Val) : opR nAdd [a, b] = if (reckonR 0 a b).2 = 4 then none else some ((reckonR 0 a b).1, (reckonR 0 a b).2 == 7) := by
  unfold opR; rw [oc_add]; rfl
theorem opR_test {s : ByteArray} (h : oc s = 7) (a b : Val) : opR s [a, b] = if (testR (testF s) (testN s) a b).2 = 4 then none else some ((testR (testF s) (testN s) a b).1, false) := by
  unfold opR; rw [h]; rfl
/-! ### truths -/
def isT (t : Int) : Prop := t = 0 ∨ t = 1 ∨ t = 2
theorem ofT_isT (v : Val) : isT (ofT v) := by unfold isT ofT; (repeat' split) <;> omega
theorem notT_isT (t : Int) : isT (notT t) := by unfold isT notT; (repeat' split) <;> omega
theorem notnot {t : Int} (h : isT t) : notT (notT t) = t := by unfold isT notT at *; (repeat' split) <;> omega
theorem and_isT (a b : Int) : isT (andL [a, b] 1) := by
  rw [andL_cons, andL_cons, andL_cons, andL_nil, andL_nil]; unfold isT; (repeat' split) <;> omega
theorem ofT_valT {t : Int} (h : isT t) : ofT (valT t) = t ∧ ofE (valT t) = 0 := by
  rcases h with rfl | rfl | rfl <;> decide
/-- truths, and what is nothing, are written in one way -/
def proper (v : Val) : Prop := (v.kind = 0 → v.n = 0 ∧ v.f = 0 ∧ emptyS v.s = true) ∧ (v.kind = 1 → (v.n = 0 ∨ v.n = 1) ∧ v.f = 0 ∧ emptyS v.s = true)
theorem proper_zero : proper zeroVal := ⟨fun _ => ⟨rfl, rfl, emptyS_nil⟩, fun h => absurd h (by decide)⟩
theorem proper_valT {t : Int} : proper (valT t) := by
  unfold valT
  split
  · rename_i h; exact ⟨fun h => absurd h (show (1 : Int) ≠ 0 by decide), fun _ => ⟨h, rfl, emptyS_nil⟩⟩
  · exact proper_zero
theorem proper_truthV (b : Bool) : proper (truthV b) := ⟨fun h => absurd h (show (1 : Int) ≠ 0 by decide), fun _ => ⟨by unfold truthV; cases b <;> simp, rfl, emptyS_nil⟩⟩
theorem proper_other {v : Val} (h0 : v.kind ≠ 0) (h1 : v.kind ≠ 1) : proper v := ⟨fun h => absurd h h0, fun h => absurd h h1⟩
theorem proper_reckon (k : Nat) (a b : Val) : proper (reckonR k a b).1 := by
  unfold reckonR
  (repeat' split) <;> first | exact proper_zero | exact proper_other (by simp) (by simp)
theorem proper_test (f : Int → Bool) (ne : Bool) (a b : Val) : proper (testR f ne a b).1 := by
  unfold testR
  (repeat' split) <;> first | exact proper_zero | exact proper_truthV _
theorem proper_op {s : ByteArray} {l : List Val} {r : Val × Bool} (h : opR s l = some r) : proper r.1 := by
  unfold opR at h
  split at h
  · split at h
    · injection h with h; subst h; exact proper_valT
    · cases h
  · split at h
    · injection h with h; subst h; exact proper_valT
    · cases h
  · split at h
    · injection h with h; subst h; exact proper_valT
    · cases h
  · injection h with h; subst h; exact proper_valT
  · split at h
    · cases h
    · injection h with h; subst h; exact proper_reckon _ _ _
  · split at h
    · cases h
    · injection h with h; subst h; exact proper_reckon _ _ _
  · split at h
    · cases h
    · injection h with h; subst h; exact proper_reckon _ _ _
  · split at h
    · cases h
    · injection h with h; subst h; exact proper_test _ _ _ _
  · cases h
theorem emptyS_list {s : ByteArray} (h : (s.toList == ByteArray.toList ⟨#[]⟩) = true) : emptyS s = true := by
  unfold emptyS
  rw [beq_iff_eq] at h
  rw [h, ByteArray.toList_eq]; rfl
theorem proper_right {v : Val} (h : valueRight v = true) : proper v := by
  unfold valueRight at h
  refine ⟨fun hk => ?_, fun hk => ?_⟩
  · rw [if_pos hk] at h
    simp only [Bool.and_eq_true, beq_iff_eq] at h
    exact ⟨h.1.1, h.2, h.1.2⟩
  · rw [if_neg (by omega), if_pos hk] at h
    simp only [Bool.and_eq_true, Bool.or_eq_true, beq_iff_eq] at h
    exact ⟨h.1.1, h.2, h.1.2⟩
theorem proper_fix (p : Pr) : proper (fixP p).val := by
  unfold fixP
  split
  · rename_i h
    unfold right02 at h
    refine ⟨fun hk => ?_, fun hk => ?_⟩
    · rw [if_pos hk] at h
      rw [Bool.and_eq_true, Bool.and_eq_true, beq_iff_eq, beq_iff_eq] at h
      exact ⟨h.1, by omega, emptyS_list h.2.2⟩
    · rw [if_neg (by omega), if_pos hk] at h
      rw [Bool.and_eq_true, Bool.and_eq_true, Bool.or_eq_true, beq_iff_eq, beq_iff_eq, beq_iff_eq] at h
      exact ⟨h.1, by omega, emptyS_list h.2.2⟩
  · exact proper_zero
theorem proper_look {ps : List Pr} (hp : ∀ p ∈ ps, proper p.val) (s : ByteArray) : proper (look1 ps s) := by
  unfold look1
  split
  · rename_i p h; exact hp p (List.mem_of_find?_eq_some h)
  · exact proper_zero
theorem proper_few (l : List Pr) : ∀ p ∈ fewP l, proper p.val := fun p hp => by
  unfold fewP at hp
  obtain ⟨q, _, rfl⟩ := List.mem_map.1 hp
  exact proper_fix q
theorem proper_eval {ps : List Pr} (hp : ∀ p ∈ ps, proper p.val) : ∀ {e : E} {r : Val × Bool}, rightE e = true → evalE ps e = some r → proper r.1 := fun {e r} hr h => by
  rw [evalE_eq] at h
  rw [rightE_eq] at hr
  split at h
  · rename_i k1
    injection h with h; subst h
    rw [if_pos k1] at hr
    simp only [Bool.and_eq_true] at hr
    exact proper_right hr.2
  · split at h
    · injection h with h; subst h; exact proper_look hp _
    · split at h
      · cases h
      · rw [Option.map_eq_some_iff] at h
        obtain ⟨q, h1, h2⟩ := h
        subst h2
        exact proper_op (r := q) h1
/-- a truth is told again as it was -/
theorem same_truth {v : Val} (hp : proper v) (h : ofE v ≠ 4) : sameV (valT (ofT v)) v = true := by
  have hs : ∀ w u : Val, w.kind = u.kind → w.n = u.n → emptyS w.s = true → emptyS u.s = true → w.f = u.f → sameV w u = true := fun w u h1 h2 h3 h4 h5 => by
    unfold sameV emptyS at *
    rw [h1, h2, h5, List.isEmpty_iff.1 h3, List.isEmpty_iff.1 h4]
    simp
  unfold ofE at h
  by_cases h0 : v.kind = 0
  · obtain ⟨a1, a2, a3⟩ := hp.1 h0
    have : ofT v = 2 := by unfold ofT; rw [if_pos h0]
    rw [this]
    exact hs _ _ (by rw [h0]; rfl) (by rw [a1]; rfl) emptyS_nil a3 (by rw [a2]; rfl)
  · rw [if_neg h0] at h
    by_cases h1 : v.kind = 1 ∧ (v.n = 0 ∨ v.n = 1)
    · obtain ⟨_, a2, a3⟩ := hp.2 h1.1
      have : ofT v = v.n := by unfold ofT; rw [if_neg h0, if_pos h1]
      rw [this]
      have hv : valT v.n = ⟨1, v.n, 0, ⟨#[]⟩⟩ := by unfold valT; rw [if_pos h1.2]
      rw [hv]
      exact hs _ _ h1.1.symm rfl emptyS_nil a3 a2.symm
    · rw [if_neg h1] at h; exact absurd rfl h
/-! ### the answers -/
theorem evalR_right {ps : List Pr} {e : E} (h : exprRight e = true) : evalR ps e = match evalE ps e with
    | none => (zeroVal, 4)
    | some r => if r.2 = true then (zeroVal, 7) else (r.1, 0) := by
  unfold evalR
  rw [if_neg (by rw [h]; decide)]
  rfl
end Go.Proofs.Ytjhkehloipmjfaa
