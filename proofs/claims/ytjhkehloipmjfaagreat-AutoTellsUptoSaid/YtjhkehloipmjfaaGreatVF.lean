/- Walks: right expressions. -/
import Derived.Test.YtjhkehloipmjfaaGreatVE
set_option maxRecDepth 100000
set_option maxHeartbeats 4000000
namespace Go.Proofs.YtjhkehloipmjfaaGreat
open Go.RowKit
theorem zkK (e : E) (h : CallsV Tryz.prog 126 [.dat (encE e)] (.val (vB (rightE e)))) : CallsV Tryz.prog 155 [.dat (encE e)] (.val (vB (!rightE e))) := by
  (refine zaj (Ty := Ty) zag Tryz.func155 rfl rfl rfl fun w0 S0 => ?_; simp only [argsF, List.zipIdx_cons, List.zipIdx_nil, List.map_cons, List.map_nil, Nat.zero_add])
  cases hr : rightE e with
  | true =>
    rw [hr] at h
    repeat (first | refine zac ?_ | refine zaa ?_ | ((first | refine zab ?_ | refine zae ?_); (first | change W _ _ _ _ _ | change EndQ _ _ _ _ _ _ )) | (refine isRL ?_; first | refine uAs ?_ | (refine isLd ?_; first | refine uLb ?_ ) | (refine isCl ?_; first | refine uC (h) ?_ ) | refine uBu false ?_ | refine uBx ?_ ))
    exact zah (by rfl) rfl
  | false =>
    rw [hr] at h
    repeat (first | refine zac ?_ | refine zaa ?_ | ((first | refine zab ?_ | refine zae ?_); (first | change W _ _ _ _ _ | change EndQ _ _ _ _ _ _ )) | (refine isRL ?_; first | refine uAs ?_ | (refine isLd ?_; first | refine uLb ?_ ) | (refine isCl ?_; first | refine uC (h) ?_ ) | refine uBu true ?_ | refine uBx ?_ ))
    exact zah (by rfl) rfl
theorem zfL {α : Type} (f : α → Bool) (l : List α) : l.any (fun x => !f x) = !l.all f := by
  induction l with
  | nil => rfl
  | cons x l ih => rw [List.any_cons, List.all_cons, ih]; cases f x <;> rfl
theorem zkm : ∀ e : E, CallsV Tryz.prog 126 [.dat (encE e)] (.val (vB (rightE e))) := E.ind fun e ih => by
  have hC := zhJ e.kids 155 [] (fun q => !rightE q) fun q hq => zkK q (ih q hq)
  rw [zfL] at hC
  have hK := zmF e.name
  have hV := zd1 e.val
  have hdef := zjt e
  have hlm : (e.kids.map encE).length = e.kids.length := List.length_map _
  (refine zaj (Ty := Ty) zag Tryz.func126 rfl rfl rfl fun w0 S0 => ?_; simp only [argsF, List.zipIdx_cons, List.zipIdx_nil, List.map_cons, List.map_nil, Nat.zero_add])
  by_cases k1 : e.kind = 1
  · rw [if_pos k1] at hdef
    cases hz : zeroV e.val
    all_goals
      cases hs : emptyS e.name
      · have hs2 := zaX _ _ hs
        repeat (first | refine zac ?_ | refine zaa ?_ | ((first | refine zab ?_ | refine zae ?_ ); (first | change W _ _ _ _ _ | skip)) | (refine isRL ?_; first | refine uMv ?_ | refine uAs ?_ | refine uO ?_ | (refine isBin ?_; first | refine uBb true ?_ | refine uBb false ?_ | refine uEq true ?_ | refine uEq false ?_) | (refine isLd ?_; first | refine uL1 ?_ ) | (refine isFa ?_; first | refine uP ?_) | (refine isBd ?_; first | refine uBd ?_ ) | refine uP ?_ | refine uBx ?_ ) | refine zad ?_ | refine wT fun _ => ?_ )
        exact zah (by rfl) (zas (by rw [hdef, hs]; rfl))
      · have hs2 := zaX _ _ hs
        by_cases hl : e.kids.length = 0
        · have hv : valueRight e.val = true ∨ valueRight e.val = false := by cases valueRight e.val <;> simp
          rcases hv with hv | hv
          all_goals
            rw [hv] at hV
            repeat (first | refine zac ?_ | refine zaa ?_ | ((first | refine zab ?_ | refine zae ?_ ); (first | change W _ _ _ _ _ | skip)) | (refine isRL ?_; first | refine uMv ?_ | refine uAs ?_ | (refine isBin ?_; first | refine uBb true ?_ | refine uEq true ?_ | refine uEq false ?_) | (refine isLd ?_; first | refine uL1 ?_ ) | (refine isCl ?_; first | refine uC (hV) ?_ | refine uP ?_) | (refine isFa ?_; first | refine uP ?_) | (refine isBd ?_; first | refine uBd ?_ ) | refine uP ?_ | refine uBx ?_ ) | refine zad ?_ | refine wT fun _ => ?_ )
            exact zah (by rfl) (zas (by rw [hdef, hs, hv, List.eq_nil_of_length_eq_zero hl]; rfl))
        · repeat (first | refine zac ?_ | refine zaa ?_ | ((first | refine zab ?_ | refine zae ?_ ); (first | change W _ _ _ _ _ | skip)) | (refine isRL ?_; first | refine uMv ?_ | refine uAs ?_ | refine uO ?_ | (refine isBin ?_; first | refine uBb true ?_ | refine uBb false ?_ | refine uEq true ?_ | refine uEq false ?_) | (refine isLd ?_; first | refine uL1 ?_ ) | (refine isCl ?_; first | refine uP ?_) | (refine isFa ?_; first | refine uP ?_) | (refine isBd ?_; first | refine uBd ?_ ) | refine uP ?_ | refine uBx ?_ ) | refine zad ?_ | refine wT fun _ => ?_ )
          exact zah (by rfl) (zas (by
            rw [hdef, hs]
            cases hc : e.kids with
            | nil => rw [hc] at hl; exact absurd rfl hl
            | cons _ _ => rfl))
  by_cases k2 : e.kind = 2
  · rw [if_neg k1, if_pos k2] at hdef
    cases hz : zeroV e.val
    all_goals
      cases hs : emptyS e.name
      · have hs2 := zjK _ _ hs
        by_cases hl : e.kids.length = 0
        · repeat (first | refine zac ?_ | refine zaa ?_ | ((first | refine zab ?_ | refine zae ?_ ); (first | change W _ _ _ _ _ | skip)) | (refine isRL ?_; first | refine uMv ?_ | refine uAs ?_ | (refine isBin ?_; first | refine uBb true ?_ | refine uBb false ?_ | refine uEq true ?_ | refine uEq false ?_) | (refine isLd ?_; first | refine uL1 ?_ ) | (refine isCl ?_; first | refine uP ?_) | (refine isFa ?_; first | refine uP ?_) | (refine isBd ?_; first | refine uBd ?_ ) | refine uP ?_ | refine uBx ?_ ) | refine zad ?_ | refine wT fun _ => ?_ | refine wF fun _ => ?_ )
          exact zah (by rfl) (zas (by rw [hdef, hs, hz, List.eq_nil_of_length_eq_zero hl]; rfl))
        · repeat (first | refine zac ?_ | refine zaa ?_ | ((first | refine zab ?_ | refine zae ?_ ); (first | change W _ _ _ _ _ | skip)) | (refine isRL ?_; first | refine uMv ?_ | refine uAs ?_ | refine uO ?_ | (refine isBin ?_; first | refine uBb true ?_ | refine uBb false ?_ | refine uEq true ?_ | refine uEq false ?_) | (refine isLd ?_; first | refine uL1 ?_ ) | (refine isCl ?_; first | refine uP ?_) | (refine isFa ?_; first | refine uP ?_) | (refine isBd ?_; first | refine uBd ?_ ) | refine uP ?_ | refine uBx ?_ ) | refine zad ?_ | refine wT fun _ => ?_ | refine wF fun _ => ?_ )
          exact zah (by rfl) (zas (by
            rw [hdef, hs]
            cases hc : e.kids with
            | nil => rw [hc] at hl; exact absurd rfl hl
            | cons _ _ => rfl))
      · have hs2 := zjK _ _ hs
        repeat (first | refine zac ?_ | refine zaa ?_ | ((first | refine zab ?_ | refine zae ?_ ); (first | change W _ _ _ _ _ | skip)) | (refine isRL ?_; first | refine uMv ?_ | refine uAs ?_ | refine uO ?_ | (refine isBin ?_; first | refine uBb true ?_ | refine uBb false ?_ | refine uEq true ?_ | refine uEq false ?_) | (refine isLd ?_; first | refine uL1 ?_ ) | (refine isFa ?_; first | refine uP ?_) | (refine isBd ?_; first | refine uBd ?_ ) | refine uP ?_ | refine uBx ?_ ) | refine zad ?_ | refine wT fun _ => ?_ | refine wF fun _ => ?_ )
        exact zah (by rfl) (zas (by rw [hdef, hs]; rfl))
  by_cases k3 : e.kind = 3
  · rw [if_neg k1, if_neg k2, if_pos k3] at hdef
    cases hz : zeroV e.val
    · repeat (first | refine zac ?_ | refine zaa ?_ | ((first | refine zab ?_ | refine zae ?_ ); (first | change W _ _ _ _ _ | skip)) | (refine isRL ?_; first | refine uAs ?_ | (refine isBin ?_; first | refine uBb true ?_ | refine uBb false ?_ | refine uEq false ?_) | (refine isLd ?_; first | refine uL1 ?_ ) | (refine isFa ?_; first | refine uP ?_) | (refine isBd ?_; first | refine uBd ?_ ) | refine uBx ?_ ) | refine zad ?_ | refine wT fun _ => ?_ | refine wF fun _ => ?_ | refine uAny ?_ | (refine isD ?_; first | refine mMv ?_ | refine mAs ?_ | refine mO ?_ | refine mP ?_ ))
      exact zah (by rfl) (zas (by rw [hdef, hz]; rfl))
    · by_cases hp : opKids e.name > 0
      · by_cases hq : opKids e.name = (e.kids.length : Int)
        · have hq' : (opKids e.name == ((e.kids.map encE).length : Int)) = true := by rw [hlm]; exact beq_iff_eq.2 hq
          cases ha : e.kids.all rightE
          all_goals
            rw [ha] at hC
            repeat (first | refine zac ?_ | refine zaa ?_ | ((first | refine zab ?_ | refine zae ?_ ); (first | change W _ _ _ _ _ | skip)) | (refine isRL ?_; first | refine uAs ?_ | (refine isBin ?_; first | refine uBb true ?_ | refine uBb false ?_ | refine uEq true ?_ ) | (refine isLd ?_; first | refine uL1 ?_ ) | (refine isFa ?_; first | refine uP ?_) | (refine isBd ?_; first | refine uBd ?_ ) | refine uBx ?_ ) | refine zad ?_ | refine wT fun _ => ?_ | refine wF fun _ => ?_ | refine uAny ?_ | (refine isD ?_; first | refine mMv ?_ | refine mAs ?_ | (refine imBin ?_; first | refine mBb true ?_ ) | (refine imLd ?_; first | refine mL1 ?_ ) | (refine imCl ?_; first | refine mC (hK) ?_ | refine mC (hC) ?_ | refine mP ?_) | (refine imFa ?_; first | refine mP ?_) | refine mBu true ?_ | refine mBu false ?_ | refine mP ?_ ))
            exact zah (by rfl) (zas (by rw [hdef, hz, ha, decide_eq_true hp, decide_eq_true hq]; rfl))
        · have hq' : (opKids e.name == ((e.kids.map encE).length : Int)) = false := by rw [hlm]; exact beq_eq_false_iff_ne.2 hq
          repeat (first | refine zac ?_ | refine zaa ?_ | ((first | refine zab ?_ | refine zae ?_ ); (first | change W _ _ _ _ _ | skip)) | (refine isRL ?_; first | refine uAs ?_ | (refine isBin ?_; first | refine uBb true ?_ | refine uBb false ?_ | refine uEq true ?_ ) | (refine isLd ?_; first | refine uL1 ?_ ) | (refine isFa ?_; first | refine uP ?_) | (refine isBd ?_; first | refine uBd ?_ ) | refine uBx ?_ ) | refine zad ?_ | refine wT fun _ => ?_ | refine wF fun _ => ?_ | refine uAny ?_ | (refine isD ?_; first | refine mMv ?_ | refine mAs ?_ | refine mO ?_ | (refine imBin ?_; first | refine mBb true ?_ | refine mBb false ?_ ) | (refine imLd ?_; first | refine mL1 ?_ ) | (refine imCl ?_; first | refine mC (hK) ?_ | refine mP ?_) | (refine imFa ?_; first | refine mP ?_) | refine mP ?_ ))
          exact zah (by rfl) (zas (by rw [hdef, hz, decide_eq_true hp, decide_eq_false hq]; rfl))
      · repeat (first | refine zac ?_ | refine zaa ?_ | ((first | refine zab ?_ | refine zae ?_ ); (first | change W _ _ _ _ _ | skip)) | (refine isRL ?_; first | refine uAs ?_ | (refine isBin ?_; first | refine uBb true ?_ | refine uBb false ?_ | refine uEq true ?_ ) | (refine isLd ?_; first | refine uL1 ?_ ) | (refine isFa ?_; first | refine uP ?_) | (refine isBd ?_; first | refine uBd ?_ ) | refine uBx ?_ ) | refine zad ?_ | refine wT fun _ => ?_ | refine wF fun _ => ?_ | refine uAny ?_ | (refine isD ?_; first | refine mMv ?_ | refine mAs ?_ | refine mO ?_ | (refine imBin ?_; first | refine mBb false ?_ ) | (refine imLd ?_; first | refine mL1 ?_ ) | (refine imCl ?_; first | refine mC (hK) ?_ ) | (refine imFa ?_; first | refine mP ?_) | refine mP ?_ ))
        exact zah (by rfl) (zas (by rw [hdef, hz, decide_eq_false hp]; rfl))
  rw [if_neg k1, if_neg k2, if_neg k3] at hdef
  cases hz : zeroV e.val
  all_goals
    repeat (first | refine zac ?_ | refine zaa ?_ | ((first | refine zab ?_ | refine zaf ?_ | refine zae ?_ ); (first | change W _ _ _ _ _ | change EndQ _ _ _ _ _ _ )) | (refine isRL ?_; first | refine uAs ?_ | (refine isBin ?_; first | refine uBb false ?_ | refine uEq true ?_ | refine uEq false ?_) | (refine isLd ?_; first | refine uL1 ?_ ) | (refine isFa ?_; first | refine uP ?_) | (refine isBd ?_; first | refine uBd ?_ ) | refine uBx ?_ ) | refine zad ?_ | refine wF fun _ => ?_ )
    exact zah (by rfl) (zas hdef.symm)
theorem zhA (e : E) : CallsV Tryz.prog 102 [.dat (encE e)] (.val (vB (exprRight e))) := by
  have hD := zkg e
  have hR := zkm e
  have hdef : exprRight e = (decide (depthE 50 e ≤ 50) && rightE e) := rfl
  (refine zaj (Ty := Ty) zag Tryz.func102 rfl rfl rfl fun w0 S0 => ?_; simp only [argsF, List.zipIdx_cons, List.zipIdx_nil, List.map_cons, List.map_nil, Nat.zero_add])
  by_cases h : depthE 50 e ≤ 50
  · cases hr : rightE e
    all_goals
      rw [hr] at hR
      repeat (first | refine zac ?_ | refine zaa ?_ | ((first | refine zab ?_ | refine zae ?_); (first | change W _ _ _ _ _ | change EndQ _ _ _ _ _ _ )) | (refine isRL ?_; first | refine uMv ?_ | refine uAs ?_ | (refine isBin ?_; first | refine uBb true ?_ ) | (refine isLd ?_; first | refine uLb ?_ ) | (refine isCl ?_; first | refine uC (hD) ?_ | refine uC (hR) ?_ ) | refine uP ?_ | refine uBx ?_ ))
      exact zah (by rfl) (zas (by rw [hdef, decide_eq_true h, hr]; rfl))
  · repeat (first | refine zac ?_ | refine zaa ?_ | ((first | refine zab ?_ | refine zae ?_); (first | change W _ _ _ _ _ | change EndQ _ _ _ _ _ _ )) | (refine isRL ?_; first | refine uMv ?_ | refine uAs ?_ | refine uO ?_ | (refine isBin ?_; first | refine uBb false ?_ ) | (refine isLd ?_; first | refine uLb ?_ ) | (refine isCl ?_; first | refine uC (hD) ?_ ) | refine uP ?_ | refine uBx ?_ ))
    exact zah (by rfl) (zas (by rw [hdef, decide_eq_false h]; rfl))
end Go.Proofs.YtjhkehloipmjfaaGreat
