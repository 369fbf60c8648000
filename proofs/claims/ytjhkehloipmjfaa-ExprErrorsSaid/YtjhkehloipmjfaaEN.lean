/- law 05: what must be in any case. -/
import Derived.Test.YtjhkehloipmjfaaEM
namespace Go.Proofs.Ytjhkehloipmjfaa
open Go.RowKit
def iv (n : Int) : Val := ⟨2, n, 0, ⟨#[]⟩⟩
theorem right_iv (n : Int) : valueRight (iv n) = true := by
  have : valueRight (iv n) = (emptyS ⟨#[]⟩ && (0 : Nat) == 0) := rfl
  rw [this, emptyS_nil]; rfl
theorem right_zero : valueRight zeroVal = true := by
  have : valueRight zeroVal = ((0 : Int) == 0 && emptyS ⟨#[]⟩ && (0 : Nat) == 0) := rfl
  rw [this, emptyS_nil]; rfl
theorem testR_iv (f : Int → Bool) (ne : Bool) (m n : Int) : testR f ne (iv m) (iv n) = (truthV (f (cmpI m n)), 0) := by
  unfold testR
  rw [if_neg (by rw [right_iv, right_iv]; decide), if_neg (fun h : (iv m).kind = 0 ∨ (iv n).kind = 0 => by rcases h with h | h <;> exact absurd h (show (2 : Int) ≠ 0 by decide)), if_neg (fun h => h.1 rfl)]
  have : agV (iv m) (iv n) = (cmpI m n, true) := rfl
  rw [this]
  rfl
theorem testR_zero (f : Int → Bool) (ne : Bool) (n : Int) : testR f ne zeroVal (iv n) = (zeroVal, 0) := by
  unfold testR
  rw [if_neg (by rw [right_iv, right_zero]; decide), if_pos (.inl rfl)]
theorem reckonR_iv (k : Nat) (m n : Int) : reckonR k (iv m) (iv n) = if (wholeV k m n).2 = false then (zeroVal, 7) else (iv (wholeV k m n).1, 0) := by
  unfold reckonR
  rw [if_neg (by rw [right_iv, right_iv]; decide), if_neg (fun h : (iv m).kind = 0 ∨ (iv n).kind = 0 => by rcases h with h | h <;> exact absurd h (show (2 : Int) ≠ 0 by decide)), if_neg (fun h : isNum (iv m) = false ∨ isNum (iv n) = false => by rcases h with h | h <;> exact absurd h (show isNum ⟨2, _, 0, ⟨#[]⟩⟩ ≠ false by unfold isNum; simp)), if_pos ⟨rfl, rfl⟩]
  rfl
def big : Int := 9223372036854775807
theorem over_whole : (wholeV 0 big 1).2 = false := by decide
theorem over_eval (ps : List Pr) : evalE ps (eOp nAdd [eInt big, eInt 1]) = some (zeroVal, true) := by
  rw [eval_op2, eval_int, eval_int]
  simp only [Option.bind_some]
  have : opR nAdd [⟨2, big, 0, ⟨#[]⟩⟩, ⟨2, 1, 0, ⟨#[]⟩⟩] = some (zeroVal, true) := by
    rw [opR_add]
    have h := reckonR_iv 0 big 1
    rw [if_pos over_whole] at h
    have h' : reckonR 0 ⟨2, big, 0, ⟨#[]⟩⟩ ⟨2, 1, 0, ⟨#[]⟩⟩ = (zeroVal, 7) := h
    rw [h']; rfl
  rw [this]; rfl
theorem testF_lt : testF nLt = fun c => decide (c < 0) := by unfold testF eqL nLt; simp only [ByteArray.toList_eq]; rfl
theorem right_over : rightE (eOp nAdd [eInt big, eInt 1]) = true := by
  rw [right_op _ _ (by rw [opKids_add]; decide) opKids_add]
  simp [right_int]
theorem dE_int (n : Int) : dE (eInt n) = 1 := by rw [dE_eq]; rfl
theorem dE_prop (s : ByteArray) : dE (eProp s) = 1 := by rw [dE_eq]; rfl
def nX : ByteArray := ⟨#[120]⟩
def nY : ByteArray := ⟨#[121]⟩
theorem emptyX : emptyS nX = false := by unfold emptyS nX; rw [ByteArray.toList_eq]; rfl
theorem emptyY : emptyS nY = false := by unfold emptyS nY; rw [ByteArray.toList_eq]; rfl
theorem eqXX : eqL nX nX = true := by unfold eqL; simp
theorem eqXY : eqL nX nY = false := by unfold eqL nX nY; rw [ByteArray.toList_eq, ByteArray.toList_eq]; decide
def ps0 : List Pr := [⟨nX, iv 2⟩]
theorem right_lt (s : ByteArray) (h : emptyS s = false) (n : Int) : exprRight (eOp nLt [eProp s, eInt n]) = true := by
  rw [exprRight_dE, dE_op2, dE_prop, dE_int, right_op _ _ (by rw [opKids_lt]; decide) opKids_lt]
  simp [right_int, right_prop s h]
theorem shown1 : holdsR ps0 (eOp nLt [eProp nX, eInt 3]) = (true, 0) := by
  have he : evalR ps0 (eOp nLt [eProp nX, eInt 3]) = (truthV true, 0) := by
    rw [evalR_right (right_lt _ emptyX _), eval_op2, eval_prop, eval_int]
    have hl : look1 ps0 nX = iv 2 := by unfold look1 ps0; rw [List.find?_cons_of_pos (by exact eqXX)]
    rw [hl]
    simp only [Option.bind_some]
    rw [opR_test oc_lt]
    have h := testR_iv (testF nLt) (testN nLt) 2 3
    have h' : testR (testF nLt) (testN nLt) (iv 2) ⟨2, 3, 0, ⟨#[]⟩⟩ = (truthV true, 0) := h.trans (by rw [testF_lt]; rfl)
    rw [h']; rfl
  unfold holdsR
  rw [if_neg (fun h : (eOp nLt [eProp nX, eInt 3]).kind = 0 => absurd h (show (3 : Int) ≠ 0 by decide)), he]; rfl
theorem shown2 : holdsR ps0 (eOp nLt [eProp nY, eInt 3]) = (false, 0) := by
  have he : evalR ps0 (eOp nLt [eProp nY, eInt 3]) = (zeroVal, 0) := by
    rw [evalR_right (right_lt _ emptyY _), eval_op2, eval_prop, eval_int]
    have hl : look1 ps0 nY = zeroVal := by unfold look1 ps0; rw [List.find?_cons_of_neg (by exact (by rw [eqXY]; decide)), List.find?_nil]
    rw [hl]
    simp only [Option.bind_some]
    rw [opR_test oc_lt]
    have h' : testR (testF nLt) (testN nLt) zeroVal ⟨2, 3, 0, ⟨#[]⟩⟩ = (zeroVal, 0) := testR_zero _ _ 3
    rw [h']; rfl
  unfold holdsR
  rw [if_neg (fun h : (eOp nLt [eProp nY, eInt 3]).kind = 0 => absurd h (show (3 : Int) ≠ 0 by decide)), he]; rfl
theorem shown3 : evalR [] (eOp nAdd [eInt big, eInt 1]) = (zeroVal, 7) := by
  have hr : exprRight (eOp nAdd [eInt big, eInt 1]) = true := by
    rw [exprRight_dE, dE_op2, dE_int, dE_int, right_over]; rfl
  rw [evalR_right hr, over_eval]; rfl
theorem shown4 : evalR [] (eOp nAnd [eInt 1, eOp nEq [eOp nAdd [eInt big, eInt 1], eInt 0]]) = (zeroVal, 4) := by
  have hr : exprRight (eOp nAnd [eInt 1, eOp nEq [eOp nAdd [eInt big, eInt 1], eInt 0]]) = true := by
    rw [exprRight_dE, dE_op2, dE_op2, dE_op2, dE_int, dE_int, dE_int, right_op _ _ (by rw [opKids_and]; decide) opKids_and]
    have h2 : rightE (eOp nEq [eOp nAdd [eInt big, eInt 1], eInt 0]) = true := by
      rw [right_op _ _ (by rw [opKids_eq]; decide) opKids_eq]
      simp [right_int, right_over]
    simp [right_int, h2]
  rw [evalR_right hr, eval_op2, eval_int]
  have h2 : evalE [] (eOp nEq [eOp nAdd [eInt big, eInt 1], eInt 0]) = some (zeroVal, true) := by
    rw [eval_op2, over_eval, eval_int]
    simp only [Option.bind_some]
    rw [opR_test oc_eq]
    have h' : testR (testF nEq) (testN nEq) zeroVal ⟨2, 0, 0, ⟨#[]⟩⟩ = (zeroVal, 0) := testR_zero _ _ 0
    rw [h']; rfl
  rw [h2]
  simp only [Option.bind_some]
  rw [opR_and, if_pos (.inl (by decide))]; rfl
set_option maxRecDepth 100000 in
theorem shown05_v : CallsV Try.prog 11 [] (.val (vB true)) := by
  have p1 := eProp_v nX
  have p2 := eProp_v nY
  have i3 := eInt_v 3
  have iB := eInt_v big
  have i1 := eInt_v 1
  have i0 := eInt_v 0
  have o1 := eOp_v nLt [eProp nX, eInt 3] (by decide)
  have o2 := eOp_v nLt [eProp nY, eInt 3] (by decide)
  have o3 := eOp_v nAdd [eInt big, eInt 1] (by decide)
  have o4 := eOp_v nEq [eOp nAdd [eInt big, eInt 1], eInt 0] (by decide)
  have o5 := eOp_v nAnd [eInt 1, eOp nEq [eOp nAdd [eInt big, eInt 1], eInt 0]] (by decide)
  have o6 := eOp_v nNot [eProp nX] (by decide)
  have h1 := Holds_v ps0 (eOp nLt [eProp nX, eInt 3])
  have h2 := Holds_v ps0 (eOp nLt [eProp nY, eInt 3])
  have h3 := Eval_v [] (eOp nAdd [eInt big, eInt 1])
  have h4 := Eval_v [] (eOp nAnd [eInt 1, eOp nEq [eOp nAdd [eInt big, eInt 1], eInt 0]])
  have hD := DepthE_v (eOp nNot [eProp nX])
  rw [shown1] at h1
  rw [shown2] at h2
  rw [shown3] at h3
  rw [shown4] at h4
  rw [depthE_dE, dE_op1, dE_prop] at hD
  (refine callsV_of_W (Ty := Ty) ty_ok Try.func11 rfl rfl rfl fun w0 S0 => ?_; simp only [argsF, List.zipIdx_nil, List.map_nil])
  repeat' (first | refine W_seq ?_ | refine W_region ?_ | (refine RL_nil ?_; (first | change W _ _ _ _ _ | change EndQ _ _ _ _ _ _ | change Exists _ | change EndG _ _ _ _ _ _ _ _ _ _ | change EndM _ _ _ _ _ _ _ | skip)) | (refine isRL ?_; first | refine uMv ?_ | refine uAs ?_ | refine uO ?_ | (refine isBin ?_; first | refine uBb true ?_ | refine uBb false ?_ | refine uP ?_ | refine uEq true ?_ | refine uEq false ?_) | (refine isCl ?_; first | refine uC (p1) ?_ | refine uC (p2) ?_ | refine uC (i3) ?_ | refine uC (iB) ?_ | refine uC (i1) ?_ | refine uC (i0) ?_ | refine uC (o1) ?_ | refine uC (o2) ?_ | refine uC (o3) ?_ | refine uC (o4) ?_ | refine uC (o5) ?_ | refine uC (o6) ?_ | refine uC (h1) ?_ | refine uC (h2) ?_ | refine uC (h3) ?_ | refine uC (h4) ?_ | refine uC (hD) ?_ | refine uP ?_) | (refine isBd ?_; first | refine uBd ?_ | refine uP ?_) | (refine isSt ?_; first | refine uSw ?_ | refine uS ?_ | refine uSc ?_) | refine uBu true ?_ | refine uBu false ?_ | refine uBs ?_ | refine uP ?_ | refine uN ?_ | refine uON ?_ | refine uGsD (fun hb => ?_) (fun hb => ?_) | refine uGsE (fun hb => ?_) (fun hb => ?_) | refine uGsN (fun hb => ?_) (fun hb => ?_) | refine uGsND (fun hb => ?_) (fun hb => ?_) | refine uGsNE (fun hb => ?_) (fun hb => ?_) | refine uGsNB (fun hb => ?_) (fun hb => ?_) | refine uGs (fun hb => ?_) (fun hb => ?_)) | (refine W_skip ?_; (first | change W _ _ _ _ _ | change EndQ _ _ _ _ _ _ | change Exists _ | change EndG _ _ _ _ _ _ _ _ _ _ | change EndM _ _ _ _ _ _ _ | skip)) | (refine W_ret ?_; (first | change W _ _ _ _ _ | change EndQ _ _ _ _ _ _ | change Exists _ | change EndG _ _ _ _ _ _ _ _ _ _ | change EndM _ _ _ _ _ _ _ | skip)))
  all_goals exact end_r (by rfl) rfl
end Go.Proofs.Ytjhkehloipmjfaa
