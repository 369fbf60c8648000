/- Plain laws of an expression's value. -/
import Derived.Test.YtjhkehloipmjfaaEL
namespace Go.Proofs.Ytjhkehloipmjfaa
/-! ### names -/
def nNot : ByteArray := ⟨#[110, 111, 116]⟩
def nAnd : ByteArray := ⟨#[97, 110, 100]⟩
def nOr : ByteArray := ⟨#[111, 114]⟩
def nAdd : ByteArray := ⟨#[43]⟩
def nEq : ByteArray := ⟨#[61]⟩
def nLt : ByteArray := ⟨#[60]⟩
theorem oc_and : oc nAnd = 0 := by unfold oc eqL nAnd; simp only [ByteArray.toList_eq]; rfl
theorem oc_or : oc nOr = 1 := by unfold oc eqL nOr; simp only [ByteArray.toList_eq]; rfl
theorem oc_add : oc nAdd = 4 := by unfold oc eqL nAdd; simp only [ByteArray.toList_eq]; rfl
theorem oc_eq : oc nEq = 7 := by unfold oc eqL nEq; simp only [ByteArray.toList_eq]; rfl
theorem oc_lt : oc nLt = 7 := by unfold oc eqL nLt; simp only [ByteArray.toList_eq]; rfl
theorem opKids_and : opKids nAnd = 2 := by unfold opKids eqL nAnd; simp only [ByteArray.toList_eq]; rfl
theorem opKids_or : opKids nOr = 2 := by unfold opKids eqL nOr; simp only [ByteArray.toList_eq]; rfl
theorem opKids_add : opKids nAdd = 2 := by unfold opKids eqL nAdd; simp only [ByteArray.toList_eq]; rfl
theorem opKids_eq : opKids nEq = 2 := by unfold opKids eqL nEq; simp only [ByteArray.toList_eq]; rfl
theorem opKids_lt : opKids nLt = 2 := by unfold opKids eqL nLt; simp only [ByteArray.toList_eq]; rfl
/-! ### how deep -/
def dE : E → Nat := foldE fun _ ks => ks.foldl max 0 + 1
theorem dE_eq (e : E) : dE e = e.kids.foldl (fun d k => max d (dE k)) 0 + 1 := by
  unfold dE; rw [foldE_eq, List.foldl_map]
theorem foldl_min {α : Type} (f g : α → Nat) (n : Nat) : ∀ (l : List α) (a b : Nat), a = min b n → (∀ x ∈ l, f x = min (g x) n) → l.foldl (fun d k => max d (f k)) a = min (l.foldl (fun d k => max d (g k)) b) n
  | [], a, b, h, _ => h
  | x :: l, a, b, h, hx => by
    rw [List.foldl_cons, List.foldl_cons]
    refine foldl_min f g n l _ _ ?_ fun y hy => hx y (by simp [hy])
    rw [h, hx x (by simp)]
    omega
theorem dE_pos (e : E) : 0 < dE e := by rw [dE_eq]; omega
theorem depthE_dE : ∀ (n : Nat) (e : E), depthE n e = min (dE e) (n + 1)
  | 0, e => by rw [depthE_zero]; have := dE_pos e; omega
  | n + 1, e => by
    rw [depthE_succ, dE_eq]
    have := foldl_min (depthE n) dE (n + 1) e.kids 0 0 (by omega) fun x _ => depthE_dE n x
    omega
theorem exprRight_dE (e : E) : exprRight e = (decide (dE e ≤ 50) && rightE e) := by
  unfold exprRight
  rw [depthE_dE]
  congr 1
  rw [decide_eq_decide]; omega
theorem dE_op1 (s : ByteArray) (a : E) : dE (eOp s [a]) = dE a + 1 := by
  rw [dE_eq]
  show max 0 (dE a) + 1 = _
  omega
theorem dE_op2 (s : ByteArray) (a b : E) : dE (eOp s [a, b]) = max (dE a) (dE b) + 1 := by
  rw [dE_eq]
  show max (max 0 (dE a)) (dE b) + 1 = _
  omega
/-! ### what may be -/
theorem emptyS_nil : emptyS ⟨#[]⟩ = true := by unfold emptyS; rw [ByteArray.toList_eq]; rfl
theorem zeroV_zero : zeroV zeroVal = true := by
  unfold zeroV zeroVal
  rw [emptyS_nil]; decide
theorem right_op (s : ByteArray) (l : List E) (hk : opKids s > 0) (hl : opKids s = (l.length : Int)) : rightE (eOp s l) = l.all rightE := by
  rw [rightE_eq]
  unfold eOp
  simp only
  rw [if_neg (by decide), if_neg (by decide), if_pos trivial, zeroV_zero, decide_eq_true hk, decide_eq_true hl]
  rfl
theorem right_int (n : Int) : rightE (eInt n) = true := by
  rw [rightE_eq]
  unfold eInt
  simp only
  rw [if_pos trivial, emptyS_nil]
  have : valueRight ⟨2, n, 0, ⟨#[]⟩⟩ = (emptyS ⟨#[]⟩ && (0 : Nat) == 0) := rfl
  rw [this, emptyS_nil]; rfl
theorem right_prop (s : ByteArray) (h : emptyS s = false) : rightE (eProp s) = true := by
  rw [rightE_eq]
  unfold eProp
  simp only
  rw [if_neg (by decide), if_pos trivial, h, zeroV_zero]; rfl
/-! ### values -/
theorem eval_op (ps : List Pr) (s : ByteArray) (l : List E) : evalE ps (eOp s l) = match allS (l.map (evalE ps)) with
    | none => none
    | some rs => (opR s (rs.map (·.1))).map fun r => (r.1, rs.any (·.2) || r.2) := by
  rw [evalE_eq]
  unfold eOp
  simp only
  rw [if_neg (by decide), if_neg (by decide)]
  rfl
theorem eval_op2 (ps : List Pr) (s : ByteArray) (a b : E) : evalE ps (eOp s [a, b]) = (evalE ps a).bind fun r => (evalE ps b).bind fun r' => (opR s [r.1, r'.1]).map fun q => (q.1, (r.2 || r'.2) || q.2) := by
  rw [eval_op]
  simp only [List.map_cons, List.map_nil]
  cases evalE ps a with
  | none => rfl
  | some r => cases evalE ps b with
    | none => rfl
    | some r' => simp [allS]
theorem eval_int (ps : List Pr) (n : Int) : evalE ps (eInt n) = some (⟨2, n, 0, ⟨#[]⟩⟩, false) := by
  rw [evalE_eq]; unfold eInt; simp
theorem eval_prop (ps : List Pr) (s : ByteArray) : evalE ps (eProp s) = some (look1 ps s, false) := by
  rw [evalE_eq]; unfold eProp; simp
theorem opR_and (a b : Val) : opR nAnd [a, b] = if ofE a = 4 ∨ ofE b = 4 then none else some (valT (andL [ofT a, ofT b] 1), false) := by
  unfold opR; rw [oc_and]
  by_cases h : ofE a = 4
  · simp [h]
  · by_cases h' : ofE b = 4
    · simp [h, h']
    · simp [h, h']
theorem opR_or (a b : Val) : opR nOr [a, b] = if ofE a = 4 ∨ ofE b = 4 then none else some (valT (notT (andL [notT (ofT a), notT (ofT b)] 1)), false) := by
  unfold opR; rw [oc_or]
  by_cases h : ofE a = 4
  · simp [h]
  · by_cases h' : ofE b = 4
    · simp [h, h']
    · simp [h, h']
theorem opR_add (a b : Val) : opR nAdd [a, b] = if (reckonR 0 a b).2 = 4 then none else some ((reckonR 0 a b).1, (reckonR 0 a b).2 == 7) := by
  unfold opR; rw [oc_add]; rfl
theorem opR_test {s : ByteArray} (h : oc s = 7) (a b : Val) : opR s [a, b] = if (testR (testF s) (testN s) a b).2 = 4 then none else some ((testR (testF s) (testN s) a b).1, false) := by
  unfold opR; rw [h]; rfl
/-! ### the answers -/
theorem evalR_right {ps : List Pr} {e : E} (h : exprRight e = true) : evalR ps e = match evalE ps e with
    | none => (zeroVal, 4)
    | some r => if r.2 = true then (zeroVal, 7) else (r.1, 0) := by
  unfold evalR
  rw [if_neg (by rw [h]; decide)]
  rfl
end Go.Proofs.Ytjhkehloipmjfaa
/- law 05: what must be in any case. -/
namespace Go.Proofs.Ytjhkehloipmjfaa
open Go.RowKit
def iv (n : Int) : Val := ⟨2, n, 0, ⟨#[]⟩⟩
theorem right_iv (n : Int) : valueRight (iv n) = true := by
  have : valueRight (iv n) = (emptyS ⟨#[]⟩ && (0 : Nat) == 0) := rfl
  rw [this, emptyS_nil]; rfl
theorem right_zero : valueRight zeroVal = true := by
  have : valueRight zeroVal = ((0 : Int) == 0 && emptyS ⟨#[]⟩ && (0 : Nat) == 0) := rfl
  rw [this, emptyS_nil]; rfl
theorem testR_iv (f : Int → Bool) (ne : Bool) (m n : Int) : testR f ne (iv m) (iv n) = (truthV (f (cmpI m n)), 0) := by
  unfold testR
  rw [if_neg (by rw [right_iv, right_iv]; decide), if_neg (fun h : (iv m).kind = 0 ∨ (iv n).kind = 0 => by rcases h with h | h <;> exact absurd h (show (2 : Int) ≠ 0 by decide)), if_neg (fun h => h.1 rfl)]
  have : agV (iv m) (iv n) = (cmpI m n, true) := rfl
  rw [this]
  rfl
theorem testR_zero (f : Int → Bool) (ne : Bool) (n : Int) : testR f ne zeroVal (iv n) = (zeroVal, 0) := by
  unfold testR
  rw [if_neg (by rw [right_iv, right_zero]; decide), if_pos (.inl rfl)]
theorem reckonR_iv (k : Nat) (m n : Int) : reckonR k (iv m) (iv n) = if (wholeV k m n).2 = false then (zeroVal, 7) else (iv (wholeV k m n).1, 0) := by
  unfold reckonR
  rw [if_neg (by rw [right_iv, right_iv]; decide), if_neg (fun h : (iv m).kind = 0 ∨ (iv n).kind = 0 => by rcases h with h | h <;> exact absurd h (show (2 : Int) ≠ 0 by decide)), if_neg (fun h : isNum (iv m) = false ∨ isNum (iv n) = false => by rcases h with h | h <;> exact absurd h (show isNum ⟨2, _, 0, ⟨#[]⟩⟩ ≠ false by unfold isNum; simp)), if_pos ⟨rfl, rfl⟩]
  rfl
def big : Int := 9223372036854775807
theorem over_whole : (wholeV 0 big 1).2 = false := by decide
theorem over_eval (ps : List Pr) : evalE ps (eOp nAdd [eInt big, eInt 1]) = some (zeroVal, true) := by
  rw [eval_op2, eval_int, eval_int]
  simp only [Option.bind_some]
  have : opR nAdd [⟨2, big, 0, ⟨#[]⟩⟩, ⟨2, 1, 0, ⟨#[]⟩⟩] = some (zeroVal, true) := by
    rw [opR_add]
    have h := reckonR_iv 0 big 1
    rw [if_pos over_whole] at h
    have h' : reckonR 0 ⟨2, big, 0, ⟨#[]⟩⟩ ⟨2, 1, 0, ⟨#[]⟩⟩ = (zeroVal, 7) := h
    rw [h']; rfl
  rw [this]; rfl
theorem testF_lt : testF nLt = fun c => decide (c < 0) := by unfold testF eqL nLt; simp only [ByteArray.toList_eq]; rfl
theorem right_over : rightE (eOp nAdd [eInt big, eInt 1]) = true := by
  rw [right_op _ _ (by rw [opKids_add]; decide) opKids_add]
  simp [right_int]
theorem dE_int (n : Int) : dE (eInt n) = 1 := by rw [dE_eq]; rfl
theorem dE_prop (s : ByteArray) : dE (eProp s) = 1 := by rw [dE_eq]; rfl
def nX : ByteArray := ⟨#[120]⟩
def nY : ByteArray := ⟨#[121]⟩
theorem emptyX : emptyS nX = false := by unfold emptyS nX; rw [ByteArray.toList_eq]; rfl
theorem emptyY : emptyS nY = false := by unfold emptyS nY; rw [ByteArray.toList_eq]; rfl
theorem eqXX : eqL nX nX = true := by unfold eqL; simp
theorem eqXY : eqL nX nY = false := by unfold eqL nX nY; rw [ByteArray.toList_eq, ByteArray.toList_eq]; decide
def ps0 : List Pr := [⟨nX, iv 2⟩]
theorem right_lt (s : ByteArray) (h : emptyS s = false) (n : Int) : exprRight (eOp nLt [eProp s, eInt n]) = true := by
  rw [exprRight_dE, dE_op2, dE_prop, dE_int, right_op _ _ (by rw [opKids_lt]; decide) opKids_lt]
  simp [right_int, right_prop s h]
theorem shown1 : holdsR ps0 (eOp nLt [eProp nX, eInt 3]) = (true, 0) := by
  have he : evalR ps0 (eOp nLt [eProp nX, eInt 3]) = (truthV true, 0) := by
    rw [evalR_right (right_lt _ emptyX _), eval_op2, eval_prop, eval_int]
    have hl : look1 ps0 nX = iv 2 := by unfold look1 ps0; rw [List.find?_cons_of_pos (by exact eqXX)]
    rw [hl]
    simp only [Option.bind_some]
    rw [opR_test oc_lt]
    have h := testR_iv (testF nLt) (testN nLt) 2 3
    have h' : testR (testF nLt) (testN nLt) (iv 2) ⟨2, 3, 0, ⟨#[]⟩⟩ = (truthV true, 0) := h.trans (by rw [testF_lt]; rfl)
    rw [h']; rfl
  unfold holdsR
  rw [if_neg (fun h : (eOp nLt [eProp nX, eInt 3]).kind = 0 => absurd h (show (3 : Int) ≠ 0 by decide)), he]; rfl
theorem shown2 : holdsR ps0 (eOp nLt [eProp nY, eInt 3]) = (false, 0) := by
  have he : evalR ps0 (eOp nLt [eProp nY, eInt 3]) = (zeroVal, 0) := by
    rw [evalR_right (right_lt _ emptyY _), eval_op2, eval_prop, eval_int]
    have hl : look1 ps0 nY = zeroVal := by unfold look1 ps0; rw [List.find?_cons_of_neg (by exact (by rw [eqXY]; decide)), List.find?_nil]
    rw [hl]
    simp only [Option.bind_some]
    rw [opR_test oc_lt]
    have h' : testR (testF nLt) (testN nLt) zeroVal ⟨2, 3, 0, ⟨#[]⟩⟩ = (zeroVal, 0) := testR_zero _ _ 3
    rw [h']; rfl
  unfold holdsR
  rw [if_neg (fun h : (eOp nLt [eProp nY, eInt 3]).kind = 0 => absurd h (show (3 : Int) ≠ 0 by decide)), he]; rfl
theorem shown3 : evalR [] (eOp nAdd [eInt big, eInt 1]) = (zeroVal, 7) := by
  have hr : exprRight (eOp nAdd [eInt big, eInt 1]) = true := by
    rw [exprRight_dE, dE_op2, dE_int, dE_int, right_over]; rfl
  rw [evalR_right hr, over_eval]; rfl
theorem shown4 : evalR [] (eOp nAnd [eInt 1, eOp nEq [eOp nAdd [eInt big, eInt 1], eInt 0]]) = (zeroVal, 4) := by
  have hr : exprRight (eOp nAnd [eInt 1, eOp nEq [eOp nAdd [eInt big, eInt 1], eInt 0]]) = true := by
    rw [exprRight_dE, dE_op2, dE_op2, dE_op2, dE_int, dE_int, dE_int, right_op _ _ (by rw [opKids_and]; decide) opKids_and]
    have h2 : rightE (eOp nEq [eOp nAdd [eInt big, eInt 1], eInt 0]) = true := by
      rw [right_op _ _ (by rw [opKids_eq]; decide) opKids_eq]
      simp [right_int, right_over]
    simp [right_int, h2]
  rw [evalR_right hr, eval_op2, eval_int]
  have h2 : evalE [] (eOp nEq [eOp nAdd [eInt big, eInt 1], eInt 0]) = some (zeroVal, true) := by
    rw [eval_op2, over_eval, eval_int]
    simp only [Option.bind_some]
    rw [opR_test oc_eq]
    have h' : testR (testF nEq) (testN nEq) zeroVal ⟨2, 0, 0, ⟨#[]⟩⟩ = (zeroVal, 0) := testR_zero _ _ 0
    rw [h']; rfl
  rw [h2]
  simp only [Option.bind_some]
  rw [opR_and, if_pos (.inl (by decide))]; rfl
set_option maxRecDepth 100000 in
theorem shown05_v : CallsV Try.prog 11 [] (.val (vB true)) := by
  have p1 := eProp_v nX
  have p2 := eProp_v nY
  have i3 := eInt_v 3
  have iB := eInt_v big
  have i1 := eInt_v 1
  have i0 := eInt_v 0
  have o1 := eOp_v nLt [eProp nX, eInt 3] (by decide)
  have o2 := eOp_v nLt [eProp nY, eInt 3] (by decide)
  have o3 := eOp_v nAdd [eInt big, eInt 1] (by decide)
  have o4 := eOp_v nEq [eOp nAdd [eInt big, eInt 1], eInt 0] (by decide)
  have o5 := eOp_v nAnd [eInt 1, eOp nEq [eOp nAdd [eInt big, eInt 1], eInt 0]] (by decide)
  have o6 := eOp_v nNot [eProp nX] (by decide)
  have h1 := Holds_v ps0 (eOp nLt [eProp nX, eInt 3])
  have h2 := Holds_v ps0 (eOp nLt [eProp nY, eInt 3])
  have h3 := Eval_v [] (eOp nAdd [eInt big, eInt 1])
  have h4 := Eval_v [] (eOp nAnd [eInt 1, eOp nEq [eOp nAdd [eInt big, eInt 1], eInt 0]])
  have hD := DepthE_v (eOp nNot [eProp nX])
  rw [shown1] at h1
  rw [shown2] at h2
  rw [shown3] at h3
  rw [shown4] at h4
  rw [depthE_dE, dE_op1, dE_prop] at hD
  (refine callsV_of_W (Ty := Ty) ty_ok Try.func11 rfl rfl rfl fun w0 S0 => ?_; simp only [argsF, List.zipIdx_nil, List.map_nil])
  repeat' (first | refine W_seq ?_ | refine W_region ?_ | (refine RL_nil ?_; (first | change W _ _ _ _ _ | change EndQ _ _ _ _ _ _ | change Exists _ | change EndG _ _ _ _ _ _ _ _ _ _ | change EndM _ _ _ _ _ _ _ | skip)) | (refine isRL ?_; first | refine uMv ?_ | refine uAs ?_ | refine uO ?_ | (refine isBin ?_; first | refine uBb true ?_ | refine uBb false ?_ | refine uP ?_ | refine uEq true ?_ | refine uEq false ?_) | (refine isCl ?_; first | refine uC (p1) ?_ | refine uC (p2) ?_ | refine uC (i3) ?_ | refine uC (iB) ?_ | refine uC (i1) ?_ | refine uC (i0) ?_ | refine uC (o1) ?_ | refine uC (o2) ?_ | refine uC (o3) ?_ | refine uC (o4) ?_ | refine uC (o5) ?_ | refine uC (o6) ?_ | refine uC (h1) ?_ | refine uC (h2) ?_ | refine uC (h3) ?_ | refine uC (h4) ?_ | refine uC (hD) ?_ | refine uP ?_) | (refine isBd ?_; first | refine uBd ?_ | refine uP ?_) | (refine isSt ?_; first | refine uSw ?_ | refine uS ?_ | refine uSc ?_) | refine uBu true ?_ | refine uBu false ?_ | refine uBs ?_ | refine uP ?_ | refine uN ?_ | refine uON ?_ | refine uGsD (fun hb => ?_) (fun hb => ?_) | refine uGsE (fun hb => ?_) (fun hb => ?_) | refine uGsN (fun hb => ?_) (fun hb => ?_) | refine uGsND (fun hb => ?_) (fun hb => ?_) | refine uGsNE (fun hb => ?_) (fun hb => ?_) | refine uGsNB (fun hb => ?_) (fun hb => ?_) | refine uGs (fun hb => ?_) (fun hb => ?_)) | (refine W_skip ?_; (first | change W _ _ _ _ _ | change EndQ _ _ _ _ _ _ | change Exists _ | change EndG _ _ _ _ _ _ _ _ _ _ | change EndM _ _ _ _ _ _ _ | skip)) | (refine W_ret ?_; (first | change W _ _ _ _ _ | change EndQ _ _ _ _ _ _ | change Exists _ | change EndG _ _ _ _ _ _ _ _ _ _ | change EndM _ _ _ _ _ _ _ | skip)))
  all_goals exact end_r (by rfl) rfl
end Go.Proofs.Ytjhkehloipmjfaa
