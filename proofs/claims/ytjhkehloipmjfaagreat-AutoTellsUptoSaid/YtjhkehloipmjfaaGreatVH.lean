/- Walks: right patterns. -/
import Derived.Test.YtjhkehloipmjfaaGreatVG
set_option maxRecDepth 100000
set_option maxHeartbeats 8000000
namespace Go.Proofs.YtjhkehloipmjfaaGreat
open Go.RowKit
theorem min1 (m : Int) (x : Int) (h : (if m > 1 then m else 1) ≤ x) : 1 ≤ x ∧ m ≤ x := by split at h <;> omega
theorem zkW : ∀ p : Pt, CallsV Tryz.prog 58 [.dat (encP p)] (.val (vB (rightP p))) := Pt.ind fun p ih => by
  have hC := zeL p.kids 85 [] (fun q => !rightP q) fun q hq => zjd q (ih q hq)
  rw [zfL] at hC
  have hN := ze5 p.label
  have hM := ze5 p.wher
  have hX := zi5 p
  have hdef := zbB p
  have hlm : (p.kids.map encP).length = p.kids.length := List.length_map _
  (refine zaj (Ty := Ty) zag Tryz.func58 rfl rfl rfl fun w0 S0 => ?_; simp only [argsF, List.zipIdx_cons, List.zipIdx_nil, List.map_cons, List.map_nil, Nat.zero_add])
  by_cases k1 : p.kind = 1
  · rw [if_pos k1] at hdef
    by_cases hmn : p.min = 0
    · by_cases hmx : p.max = 0
      · by_cases hd : p.dir = 0
        · cases hx : elemOK p
          all_goals
            rw [hx] at hX
            repeat (first | refine zac ?_ | refine zaa ?_ | ((first | refine zab ?_ | refine zae ?_); (first | change W _ _ _ _ _ | skip)) | (refine isRL ?_; first | refine uMv ?_ | refine uAs ?_ | (refine isBin ?_; first | refine uBb true ?_ ) | (refine isLd ?_; first | refine uLb ?_ | refine uL1 ?_ ) | (refine isCl ?_; first | refine uC (hX) ?_ ) | (refine isFa ?_; first | refine uP ?_) | refine uP ?_ | refine uBx ?_ ) | refine zad ?_ | refine wT fun _ => ?_ )
            exact zah (by rfl) (zas (by rw [hdef, hx]; simp [plainP, hmn, hmx, hd]))
        · repeat (first | refine zac ?_ | refine zaa ?_ | ((first | refine zab ?_ | refine zae ?_); (first | change W _ _ _ _ _ | skip)) | (refine isRL ?_; first | refine uMv ?_ | refine uAs ?_ | refine uO ?_ | (refine isBin ?_; first | refine uBb true ?_ | refine uBb false ?_ ) | (refine isLd ?_; first | refine uL1 ?_ ) | (refine isFa ?_; first | refine uP ?_) | refine uP ?_ | refine uBx ?_ ) | refine zad ?_ | refine wT fun _ => ?_ )
          exact zah (by rfl) (zas (by rw [hdef]; simp [hd]))
      · repeat (first | refine zac ?_ | refine zaa ?_ | ((first | refine zab ?_ | refine zae ?_); (first | change W _ _ _ _ _ | skip)) | (refine isRL ?_; first | refine uMv ?_ | refine uAs ?_ | refine uO ?_ | (refine isBin ?_; first | refine uBb true ?_ | refine uBb false ?_ ) | (refine isLd ?_; first | refine uL1 ?_ ) | (refine isFa ?_; first | refine uP ?_) | refine uP ?_ | refine uBx ?_ ) | refine zad ?_ | refine wT fun _ => ?_ )
        exact zah (by rfl) (zas (by rw [hdef]; simp [plainP, hmx]))
    · repeat (first | refine zac ?_ | refine zaa ?_ | ((first | refine zab ?_ | refine zae ?_); (first | change W _ _ _ _ _ | skip)) | (refine isRL ?_; first | refine uMv ?_ | refine uAs ?_ | refine uO ?_ | (refine isBin ?_; first | refine uBb true ?_ | refine uBb false ?_ ) | (refine isLd ?_; first | refine uL1 ?_ ) | (refine isFa ?_; first | refine uP ?_) | refine uP ?_ | refine uBx ?_ ) | refine zad ?_ | refine wT fun _ => ?_ )
      exact zah (by rfl) (zas (by rw [hdef]; simp [plainP, hmn]))
  by_cases k2 : p.kind = 2
  · rw [if_neg k1, if_pos k2] at hdef
    by_cases hmn : p.min = 0
    · by_cases hmx : p.max = 0
      · by_cases hd : 1 ≤ p.dir ∧ p.dir ≤ 7
        · have hI := inY hd
          cases hx : elemOK p
          all_goals
            rw [hx] at hX
            repeat (first | refine zac ?_ | refine zaa ?_ | ((first | refine zab ?_ | refine zae ?_); (first | change W _ _ _ _ _ | skip)) | (refine isRL ?_; first | refine uMv ?_ | refine uAs ?_ | (refine isBin ?_; first | refine uBb true ?_ | refine uBb false ?_ ) | (refine isLd ?_; first | refine uLb ?_ | refine uL1 ?_ ) | (refine isCl ?_; first | refine uC (hX) ?_ | refine uC (hI) ?_ ) | (refine isFa ?_; first | refine uP ?_) | refine uP ?_ | refine uBx ?_ ) | refine zad ?_ | refine wT fun _ => ?_ | refine wF fun _ => ?_)
            exact zah (by rfl) (zas (by rw [hdef, hx]; simp [plainP, hmn, hmx, hd]))
        · have hI := inO hd
          repeat (first | refine zac ?_ | refine zaa ?_ | ((first | refine zab ?_ | refine zae ?_); (first | change W _ _ _ _ _ | skip)) | (refine isRL ?_; first | refine uMv ?_ | refine uAs ?_ | refine uO ?_ | (refine isBin ?_; first | refine uBb true ?_ | refine uBb false ?_ ) | (refine isLd ?_; first | refine uL1 ?_ ) | (refine isCl ?_; first | refine uC (hI) ?_ ) | (refine isFa ?_; first | refine uP ?_) | refine uP ?_ | refine uBx ?_ ) | refine zad ?_ | refine wT fun _ => ?_ | refine wF fun _ => ?_)
          exact zah (by rfl) (zas (by rw [hdef]; simp; omega))
      · repeat (first | refine zac ?_ | refine zaa ?_ | ((first | refine zab ?_ | refine zae ?_); (first | change W _ _ _ _ _ | skip)) | (refine isRL ?_; first | refine uMv ?_ | refine uAs ?_ | refine uO ?_ | (refine isBin ?_; first | refine uBb true ?_ | refine uBb false ?_ ) | (refine isLd ?_; first | refine uL1 ?_ ) | (refine isFa ?_; first | refine uP ?_) | refine uP ?_ | refine uBx ?_ ) | refine zad ?_ | refine wT fun _ => ?_ | refine wF fun _ => ?_)
        exact zah (by rfl) (zas (by rw [hdef]; simp [plainP, hmx]))
    · repeat (first | refine zac ?_ | refine zaa ?_ | ((first | refine zab ?_ | refine zae ?_); (first | change W _ _ _ _ _ | skip)) | (refine isRL ?_; first | refine uMv ?_ | refine uAs ?_ | refine uO ?_ | (refine isBin ?_; first | refine uBb true ?_ | refine uBb false ?_ ) | (refine isLd ?_; first | refine uL1 ?_ ) | (refine isFa ?_; first | refine uP ?_) | refine uP ?_ | refine uBx ?_ ) | refine zad ?_ | refine wT fun _ => ?_ | refine wF fun _ => ?_)
      exact zah (by rfl) (zas (by rw [hdef]; simp [plainP, hmn]))
  by_cases k3 : p.kind = 3
  · rw [if_neg k1, if_neg k2, if_pos (by omega)] at hdef
    by_cases hmn : p.min = 0
    · by_cases hmx : p.max = 0
      · by_cases hl : p.kids.length = 0
        · have he := zbS (decide_eq_true hl)
          repeat (first | refine zac ?_ | refine zaa ?_ | ((first | refine zab ?_ | refine zaf ?_ | refine zae ?_); (first | change W _ _ _ _ _ | skip)) | (refine isRL ?_; first | refine uMv ?_ | refine uAs ?_ | (refine isBin ?_; first | refine uBb true ?_ | refine uBb false ?_ ) | (refine isLd ?_; first | refine uL1 ?_ ) | (refine isCl ?_; first | refine uP ?_) | (refine isFa ?_; first | refine uP ?_) | refine uBu false ?_ | refine uP ?_ | refine uBx ?_ ) | refine zad ?_ | refine wT fun _ => ?_ | refine wF fun _ => ?_)
          exact zah (by rfl) (zas (by rw [hdef, he]; simp))
        · have he := zbS (decide_eq_false hl)
          cases hv : emptyS p.var
          · have hv2 := zaX _ _ hv
            repeat (first | refine zac ?_ | refine zaa ?_ | ((first | refine zab ?_ | refine zaf ?_ | refine zae ?_); (first | change W _ _ _ _ _ | change EndQ _ _ _ _ _ _ )) | (refine isRL ?_; first | refine uMv ?_ | refine uAs ?_ | refine uO ?_ | (refine isBin ?_; first | refine uBb true ?_ | refine uBb false ?_ ) | (refine isLd ?_; first | refine uL1 ?_ ) | (refine isCl ?_; first | refine uP ?_) | (refine isFa ?_; first | refine uP ?_) | refine uBu false ?_ | refine uP ?_ | refine uBx ?_ ) | refine zad ?_ | refine wT fun _ => ?_ | refine wF fun _ => ?_)
            exact zah (by rfl) (zas (by rw [hdef]; simp [bareP, hv]))
          · have hv2 := zaX _ _ hv
            by_cases hd : p.dir = 0
            · cases hnl : noneE p.label
              · rw [hnl] at hN
                repeat (first | refine zac ?_ | refine zaa ?_ | ((first | refine zab ?_ | refine zaf ?_ | refine zae ?_); (first | change W _ _ _ _ _ | change EndQ _ _ _ _ _ _ )) | (refine isRL ?_; first | refine uMv ?_ | refine uAs ?_ | refine uO ?_ | (refine isBin ?_; first | refine uBb true ?_ | refine uBb false ?_ ) | (refine isLd ?_; first | refine uL1 ?_ ) | (refine isCl ?_; first | refine uC (hN) ?_ | refine uP ?_) | (refine isFa ?_; first | refine uP ?_) | refine uBu false ?_ | refine uP ?_ | refine uBx ?_ ) | refine zad ?_ | refine wT fun _ => ?_ | refine wF fun _ => ?_)
                exact zah (by rfl) (zas (by rw [hdef]; simp [bareP, hnl]))
              · rw [hnl] at hN
                cases hnw : noneE p.wher
                · rw [hnw] at hM
                  repeat (first | refine zac ?_ | refine zaa ?_ | ((first | refine zab ?_ | refine zaf ?_ | refine zae ?_); (first | change W _ _ _ _ _ | change EndQ _ _ _ _ _ _ )) | (refine isRL ?_; first | refine uMv ?_ | refine uAs ?_ | refine uO ?_ | (refine isBin ?_; first | refine uBb true ?_ | refine uBb false ?_ ) | (refine isLd ?_; first | refine uL1 ?_ ) | (refine isCl ?_; first | refine uC (hN) ?_ | refine uC (hM) ?_ | refine uP ?_) | (refine isFa ?_; first | refine uP ?_) | refine uBu false ?_ | refine uP ?_ | refine uBx ?_ ) | refine zad ?_ | refine wT fun _ => ?_ | refine wF fun _ => ?_)
                  exact zah (by rfl) (zas (by rw [hdef]; simp [bareP, hnw]))
                · rw [hnw] at hM
                  cases ha : p.kids.all rightP
                  all_goals
                    rw [ha] at hC
                    repeat (first | refine zac ?_ | refine zaa ?_ | ((first | refine zab ?_ | refine zaf ?_ | refine zae ?_); (first | change W _ _ _ _ _ | change EndQ _ _ _ _ _ _ )) | (refine isRL ?_; first | refine uMv ?_ | refine uAs ?_ | (refine isBin ?_; first | refine uBb true ?_ | refine uBb false ?_ ) | (refine isLd ?_; first | refine uL1 ?_ ) | (refine isCl ?_; first | refine uC (hN) ?_ | refine uC (hM) ?_ | refine uC (hC) ?_ | refine uP ?_) | (refine isFa ?_; first | refine uP ?_) | refine uBu true ?_ | refine uBu false ?_ | refine uP ?_ | refine uBx ?_ ) | refine zad ?_ | refine wT fun _ => ?_ | refine wF fun _ => ?_)
                    exact zah (by rfl) (zas (by rw [hdef, ha]; simp [bareP, hv, hd, hnl, hnw, plainP, hmn, hmx, he]))
            · repeat (first | refine zac ?_ | refine zaa ?_ | ((first | refine zab ?_ | refine zaf ?_ | refine zae ?_); (first | change W _ _ _ _ _ | change EndQ _ _ _ _ _ _ )) | (refine isRL ?_; first | refine uMv ?_ | refine uAs ?_ | refine uO ?_ | (refine isBin ?_; first | refine uBb true ?_ | refine uBb false ?_ ) | (refine isLd ?_; first | refine uL1 ?_ ) | (refine isCl ?_; first | refine uP ?_) | (refine isFa ?_; first | refine uP ?_) | refine uBu false ?_ | refine uP ?_ | refine uBx ?_ ) | refine zad ?_ | refine wT fun _ => ?_ | refine wF fun _ => ?_)
              exact zah (by rfl) (zas (by rw [hdef]; simp [bareP, hd]))
      · repeat (first | refine zac ?_ | refine zaa ?_ | ((first | refine zab ?_ | refine zaf ?_ | refine zae ?_); (first | change W _ _ _ _ _ | skip)) | (refine isRL ?_; first | refine uMv ?_ | refine uAs ?_ | refine uO ?_ | (refine isBin ?_; first | refine uBb true ?_ | refine uBb false ?_ ) | (refine isLd ?_; first | refine uL1 ?_ ) | (refine isFa ?_; first | refine uP ?_) | refine uBu true ?_ | refine uP ?_ | refine uBx ?_ ) | refine zad ?_ | refine wT fun _ => ?_ | refine wF fun _ => ?_)
        exact zah (by rfl) (zas (by rw [hdef]; simp [plainP, hmx]))
    · repeat (first | refine zac ?_ | refine zaa ?_ | ((first | refine zab ?_ | refine zaf ?_ | refine zae ?_); (first | change W _ _ _ _ _ | skip)) | (refine isRL ?_; first | refine uMv ?_ | refine uAs ?_ | refine uO ?_ | (refine isBin ?_; first | refine uBb true ?_ | refine uBb false ?_ ) | (refine isLd ?_; first | refine uL1 ?_ ) | (refine isFa ?_; first | refine uP ?_) | refine uBu true ?_ | refine uP ?_ | refine uBx ?_ ) | refine zad ?_ | refine wT fun _ => ?_ | refine wF fun _ => ?_)
      exact zah (by rfl) (zas (by rw [hdef]; simp [plainP, hmn]))
  by_cases k4 : p.kind = 4
  · rw [if_neg k1, if_neg k2, if_pos (by omega)] at hdef
    by_cases hmn : p.min = 0
    · by_cases hmx : p.max = 0
      · by_cases hl : p.kids.length = 0
        · have he := zbS (decide_eq_true hl)
          repeat (first | refine zac ?_ | refine zaa ?_ | ((first | refine zab ?_ | refine zae ?_); (first | change W _ _ _ _ _ | skip)) | (refine isRL ?_; first | refine uMv ?_ | refine uAs ?_ | (refine isBin ?_; first | refine uBb true ?_ | refine uBb false ?_ ) | (refine isLd ?_; first | refine uL1 ?_ ) | (refine isCl ?_; first | refine uP ?_) | (refine isFa ?_; first | refine uP ?_) | refine uBu false ?_ | refine uP ?_ | refine uBx ?_ ) | refine zad ?_ | refine wT fun _ => ?_ | refine wF fun _ => ?_)
          exact zah (by rfl) (zas (by rw [hdef, he]; simp))
        · have he := zbS (decide_eq_false hl)
          cases hv : emptyS p.var
          · have hv2 := zaX _ _ hv
            repeat (first | refine zac ?_ | refine zaa ?_ | ((first | refine zab ?_ | refine zaf ?_ | refine zae ?_); (first | change W _ _ _ _ _ | change EndQ _ _ _ _ _ _ )) | (refine isRL ?_; first | refine uMv ?_ | refine uAs ?_ | refine uO ?_ | (refine isBin ?_; first | refine uBb true ?_ | refine uBb false ?_ ) | (refine isLd ?_; first | refine uL1 ?_ ) | (refine isCl ?_; first | refine uP ?_) | (refine isFa ?_; first | refine uP ?_) | refine uBu false ?_ | refine uP ?_ | refine uBx ?_ ) | refine zad ?_ | refine wT fun _ => ?_ | refine wF fun _ => ?_)
            exact zah (by rfl) (zas (by rw [hdef]; simp [bareP, hv]))
          · have hv2 := zaX _ _ hv
            by_cases hd : p.dir = 0
            · cases hnl : noneE p.label
              · rw [hnl] at hN
                repeat (first | refine zac ?_ | refine zaa ?_ | ((first | refine zab ?_ | refine zaf ?_ | refine zae ?_); (first | change W _ _ _ _ _ | change EndQ _ _ _ _ _ _ )) | (refine isRL ?_; first | refine uMv ?_ | refine uAs ?_ | refine uO ?_ | (refine isBin ?_; first | refine uBb true ?_ | refine uBb false ?_ ) | (refine isLd ?_; first | refine uL1 ?_ ) | (refine isCl ?_; first | refine uC (hN) ?_ | refine uP ?_) | (refine isFa ?_; first | refine uP ?_) | refine uBu false ?_ | refine uP ?_ | refine uBx ?_ ) | refine zad ?_ | refine wT fun _ => ?_ | refine wF fun _ => ?_)
                exact zah (by rfl) (zas (by rw [hdef]; simp [bareP, hnl]))
              · rw [hnl] at hN
                cases hnw : noneE p.wher
                · rw [hnw] at hM
                  repeat (first | refine zac ?_ | refine zaa ?_ | ((first | refine zab ?_ | refine zaf ?_ | refine zae ?_); (first | change W _ _ _ _ _ | change EndQ _ _ _ _ _ _ )) | (refine isRL ?_; first | refine uMv ?_ | refine uAs ?_ | refine uO ?_ | (refine isBin ?_; first | refine uBb true ?_ | refine uBb false ?_ ) | (refine isLd ?_; first | refine uL1 ?_ ) | (refine isCl ?_; first | refine uC (hN) ?_ | refine uC (hM) ?_ | refine uP ?_) | (refine isFa ?_; first | refine uP ?_) | refine uBu false ?_ | refine uP ?_ | refine uBx ?_ ) | refine zad ?_ | refine wT fun _ => ?_ | refine wF fun _ => ?_)
                  exact zah (by rfl) (zas (by rw [hdef]; simp [bareP, hnw]))
                · rw [hnw] at hM
                  cases ha : p.kids.all rightP
                  all_goals
                    rw [ha] at hC
                    repeat (first | refine zac ?_ | refine zaa ?_ | ((first | refine zab ?_ | refine zaf ?_ | refine zae ?_); (first | change W _ _ _ _ _ | change EndQ _ _ _ _ _ _ )) | (refine isRL ?_; first | refine uMv ?_ | refine uAs ?_ | (refine isBin ?_; first | refine uBb true ?_ | refine uBb false ?_ ) | (refine isLd ?_; first | refine uL1 ?_ ) | (refine isCl ?_; first | refine uC (hN) ?_ | refine uC (hM) ?_ | refine uC (hC) ?_ | refine uP ?_) | (refine isFa ?_; first | refine uP ?_) | refine uBu true ?_ | refine uBu false ?_ | refine uP ?_ | refine uBx ?_ ) | refine zad ?_ | refine wT fun _ => ?_ | refine wF fun _ => ?_)
                    exact zah (by rfl) (zas (by rw [hdef, ha]; simp [bareP, hv, hd, hnl, hnw, plainP, hmn, hmx, he]))
            · repeat (first | refine zac ?_ | refine zaa ?_ | ((first | refine zab ?_ | refine zaf ?_ | refine zae ?_); (first | change W _ _ _ _ _ | change EndQ _ _ _ _ _ _ )) | (refine isRL ?_; first | refine uMv ?_ | refine uAs ?_ | refine uO ?_ | (refine isBin ?_; first | refine uBb true ?_ | refine uBb false ?_ ) | (refine isLd ?_; first | refine uL1 ?_ ) | (refine isCl ?_; first | refine uP ?_) | (refine isFa ?_; first | refine uP ?_) | refine uBu false ?_ | refine uP ?_ | refine uBx ?_ ) | refine zad ?_ | refine wT fun _ => ?_ | refine wF fun _ => ?_)
              exact zah (by rfl) (zas (by rw [hdef]; simp [bareP, hd]))
      · repeat (first | refine zac ?_ | refine zaa ?_ | ((first | refine zab ?_ | refine zae ?_); (first | change W _ _ _ _ _ | skip)) | (refine isRL ?_; first | refine uMv ?_ | refine uAs ?_ | refine uO ?_ | (refine isBin ?_; first | refine uBb true ?_ | refine uBb false ?_ ) | (refine isLd ?_; first | refine uL1 ?_ ) | (refine isFa ?_; first | refine uP ?_) | refine uBu true ?_ | refine uP ?_ | refine uBx ?_ ) | refine zad ?_ | refine wT fun _ => ?_ | refine wF fun _ => ?_)
        exact zah (by rfl) (zas (by rw [hdef]; simp [plainP, hmx]))
    · repeat (first | refine zac ?_ | refine zaa ?_ | ((first | refine zab ?_ | refine zae ?_); (first | change W _ _ _ _ _ | skip)) | (refine isRL ?_; first | refine uMv ?_ | refine uAs ?_ | refine uO ?_ | (refine isBin ?_; first | refine uBb true ?_ | refine uBb false ?_ ) | (refine isLd ?_; first | refine uL1 ?_ ) | (refine isFa ?_; first | refine uP ?_) | refine uBu true ?_ | refine uP ?_ | refine uBx ?_ ) | refine zad ?_ | refine wT fun _ => ?_ | refine wF fun _ => ?_)
      exact zah (by rfl) (zas (by rw [hdef]; simp [plainP, hmn]))
  by_cases k5 : p.kind = 5
  · rw [if_neg k1, if_neg k2, if_neg (by omega), if_pos k5] at hdef
    have hpl : (p.min = 0 ∧ p.max = 0) ∨ (p.min = 0 ∧ ¬ p.max = 0) ∨ ¬ p.min = 0 := by omega
    by_cases h1 : p.kids.length = 1
    · by_cases h2 : 0 ≤ p.min ∧ p.min ≤ 20
      · have hI := inY h2
        by_cases h3 : p.max = -1
        · have hq : quantOK p = true := by unfold quantOK; simp [h1, h2, h3]
          rw [hq] at hdef
          have hpl2 : (p.min = 0 ∧ ¬ p.max = 0) ∨ ¬ p.min = 0 := by omega
          rcases hpl2 with ⟨hmn, hmx⟩ | hmn
          all_goals
            cases hv : emptyS p.var
            · have hv2 := zaX _ _ hv
              repeat (first | refine zac ?_ | refine zaa ?_ | ((first | refine zab ?_ | refine zaf ?_ | refine zae ?_); (first | change W _ _ _ _ _ | change EndQ _ _ _ _ _ _ )) | (refine isRL ?_; first | refine uMv ?_ | refine uAs ?_ | refine uO ?_ | (refine isBin ?_; first | refine uBb true ?_ | refine uBb false ?_ ) | (refine isLd ?_; first | refine uL1 ?_ ) | (refine isCl ?_; first | refine uC (hI) ?_ | refine uP ?_) | (refine isFa ?_; first | refine uP ?_) | refine uBu false ?_ | refine uP ?_ | refine uBx ?_ ) | refine zad ?_ | refine wT fun _ => ?_ | refine wF fun _ => ?_)
              exact zah (by rfl) (zas (by rw [hdef]; simp [bareP, hv]))
            · have hv2 := zaX _ _ hv
              by_cases hd : p.dir = 0
              · cases hnl : noneE p.label
                · rw [hnl] at hN
                  repeat (first | refine zac ?_ | refine zaa ?_ | ((first | refine zab ?_ | refine zaf ?_ | refine zae ?_); (first | change W _ _ _ _ _ | change EndQ _ _ _ _ _ _ )) | (refine isRL ?_; first | refine uMv ?_ | refine uAs ?_ | refine uO ?_ | (refine isBin ?_; first | refine uBb true ?_ | refine uBb false ?_ ) | (refine isLd ?_; first | refine uL1 ?_ ) | (refine isCl ?_; first | refine uC (hI) ?_ | refine uC (hN) ?_ | refine uP ?_) | (refine isFa ?_; first | refine uP ?_) | refine uBu false ?_ | refine uP ?_ | refine uBx ?_ ) | refine zad ?_ | refine wT fun _ => ?_ | refine wF fun _ => ?_)
                  exact zah (by rfl) (zas (by rw [hdef]; simp [bareP, hnl]))
                · rw [hnl] at hN
                  cases hnw : noneE p.wher
                  · rw [hnw] at hM
                    repeat (first | refine zac ?_ | refine zaa ?_ | ((first | refine zab ?_ | refine zaf ?_ | refine zae ?_); (first | change W _ _ _ _ _ | change EndQ _ _ _ _ _ _ )) | (refine isRL ?_; first | refine uMv ?_ | refine uAs ?_ | refine uO ?_ | (refine isBin ?_; first | refine uBb true ?_ | refine uBb false ?_ ) | (refine isLd ?_; first | refine uL1 ?_ ) | (refine isCl ?_; first | refine uC (hI) ?_ | refine uC (hN) ?_ | refine uC (hM) ?_ | refine uP ?_) | (refine isFa ?_; first | refine uP ?_) | refine uBu false ?_ | refine uP ?_ | refine uBx ?_ ) | refine zad ?_ | refine wT fun _ => ?_ | refine wF fun _ => ?_)
                    exact zah (by rfl) (zas (by rw [hdef]; simp [bareP, hnw]))
                  · rw [hnw] at hM
                    cases ha : p.kids.all rightP
                    all_goals
                      rw [ha] at hC
                      repeat (first | refine zac ?_ | refine zaa ?_ | ((first | refine zab ?_ | refine zaf ?_ | refine zae ?_); (first | change W _ _ _ _ _ | change EndQ _ _ _ _ _ _ )) | (refine isRL ?_; first | refine uMv ?_ | refine uAs ?_ | refine uO ?_ | (refine isBin ?_; first | refine uBb true ?_ | refine uBb false ?_ ) | (refine isLd ?_; first | refine uL1 ?_ ) | (refine isCl ?_; first | refine uC (hI) ?_ | refine uC (hN) ?_ | refine uC (hM) ?_ | refine uC (hC) ?_ | refine uP ?_) | (refine isFa ?_; first | refine uP ?_) | refine uBu true ?_ | refine uBu false ?_ | refine uP ?_ | refine uBx ?_ ) | refine zad ?_ | refine wT fun _ => ?_ | refine wF fun _ => ?_)
                      exact zah (by rfl) (zas (by rw [hdef, ha]; simp [bareP, hv, hd, hnl, hnw]))
              · repeat (first | refine zac ?_ | refine zaa ?_ | ((first | refine zab ?_ | refine zaf ?_ | refine zae ?_); (first | change W _ _ _ _ _ | change EndQ _ _ _ _ _ _ )) | (refine isRL ?_; first | refine uMv ?_ | refine uAs ?_ | refine uO ?_ | (refine isBin ?_; first | refine uBb true ?_ | refine uBb false ?_ ) | (refine isLd ?_; first | refine uL1 ?_ ) | (refine isCl ?_; first | refine uC (hI) ?_ | refine uP ?_) | (refine isFa ?_; first | refine uP ?_) | refine uBu false ?_ | refine uP ?_ | refine uBx ?_ ) | refine zad ?_ | refine wT fun _ => ?_ | refine wF fun _ => ?_)
                exact zah (by rfl) (zas (by rw [hdef]; simp [bareP, hd]))
        · by_cases h4 : (if p.min > 1 then p.min else 1) ≤ p.max ∧ p.max ≤ 20
          · have hJ := inY h4
            have hq : quantOK p = true := by have := min1 _ _ h4.1; unfold quantOK; simp [h1, h2]; omega
            rw [hq] at hdef
            have hpl2 : (p.min = 0 ∧ ¬ p.max = 0) ∨ ¬ p.min = 0 := by have := (min1 _ _ h4.1).1; omega
            rcases hpl2 with ⟨hmn, hmx⟩ | hmn
            all_goals
              cases hv : emptyS p.var
              · have hv2 := zaX _ _ hv
                repeat (first | refine zac ?_ | refine zaa ?_ | ((first | refine zab ?_ | refine zaf ?_ | refine zae ?_); (first | change W _ _ _ _ _ | change EndQ _ _ _ _ _ _ )) | (refine isRL ?_; first | refine uMv ?_ | refine uAs ?_ | refine uO ?_ | (refine isBin ?_; first | refine uBb true ?_ | refine uBb false ?_ ) | (refine isLd ?_; first | refine uL1 ?_ ) | (refine isCl ?_; first | refine uC (hI) ?_ | refine uC (hJ) ?_ | refine uP ?_) | (refine isFa ?_; first | refine uP ?_) | refine uBu false ?_ | refine uP ?_ | refine uBx ?_ ) | refine zad ?_ | refine wT fun _ => ?_ | refine wF fun _ => ?_)
                exact zah (by rfl) (zas (by rw [hdef]; simp [bareP, hv]))
              · have hv2 := zaX _ _ hv
                by_cases hd : p.dir = 0
                · cases hnl : noneE p.label
                  · rw [hnl] at hN
                    repeat (first | refine zac ?_ | refine zaa ?_ | ((first | refine zab ?_ | refine zaf ?_ | refine zae ?_); (first | change W _ _ _ _ _ | change EndQ _ _ _ _ _ _ )) | (refine isRL ?_; first | refine uMv ?_ | refine uAs ?_ | refine uO ?_ | (refine isBin ?_; first | refine uBb true ?_ | refine uBb false ?_ ) | (refine isLd ?_; first | refine uL1 ?_ ) | (refine isCl ?_; first | refine uC (hI) ?_ | refine uC (hJ) ?_ | refine uC (hN) ?_ | refine uP ?_) | (refine isFa ?_; first | refine uP ?_) | refine uBu false ?_ | refine uP ?_ | refine uBx ?_ ) | refine zad ?_ | refine wT fun _ => ?_ | refine wF fun _ => ?_)
                    exact zah (by rfl) (zas (by rw [hdef]; simp [bareP, hnl]))
                  · rw [hnl] at hN
                    cases hnw : noneE p.wher
                    · rw [hnw] at hM
                      repeat (first | refine zac ?_ | refine zaa ?_ | ((first | refine zab ?_ | refine zaf ?_ | refine zae ?_); (first | change W _ _ _ _ _ | change EndQ _ _ _ _ _ _ )) | (refine isRL ?_; first | refine uMv ?_ | refine uAs ?_ | refine uO ?_ | (refine isBin ?_; first | refine uBb true ?_ | refine uBb false ?_ ) | (refine isLd ?_; first | refine uL1 ?_ ) | (refine isCl ?_; first | refine uC (hI) ?_ | refine uC (hJ) ?_ | refine uC (hN) ?_ | refine uC (hM) ?_ | refine uP ?_) | (refine isFa ?_; first | refine uP ?_) | refine uBu false ?_ | refine uP ?_ | refine uBx ?_ ) | refine zad ?_ | refine wT fun _ => ?_ | refine wF fun _ => ?_)
                      exact zah (by rfl) (zas (by rw [hdef]; simp [bareP, hnw]))
                    · rw [hnw] at hM
                      cases ha : p.kids.all rightP
                      all_goals
                        rw [ha] at hC
                        repeat (first | refine zac ?_ | refine zaa ?_ | ((first | refine zab ?_ | refine zaf ?_ | refine zae ?_); (first | change W _ _ _ _ _ | change EndQ _ _ _ _ _ _ )) | (refine isRL ?_; first | refine uMv ?_ | refine uAs ?_ | refine uO ?_ | (refine isBin ?_; first | refine uBb true ?_ | refine uBb false ?_ ) | (refine isLd ?_; first | refine uL1 ?_ ) | (refine isCl ?_; first | refine uC (hI) ?_ | refine uC (hJ) ?_ | refine uC (hN) ?_ | refine uC (hM) ?_ | refine uC (hC) ?_ | refine uP ?_) | (refine isFa ?_; first | refine uP ?_) | refine uBu true ?_ | refine uBu false ?_ | refine uP ?_ | refine uBx ?_ ) | refine zad ?_ | refine wT fun _ => ?_ | refine wF fun _ => ?_)
                        exact zah (by rfl) (zas (by rw [hdef, ha]; simp [bareP, hv, hd, hnl, hnw]))
                · repeat (first | refine zac ?_ | refine zaa ?_ | ((first | refine zab ?_ | refine zaf ?_ | refine zae ?_); (first | change W _ _ _ _ _ | change EndQ _ _ _ _ _ _ )) | (refine isRL ?_; first | refine uMv ?_ | refine uAs ?_ | refine uO ?_ | (refine isBin ?_; first | refine uBb true ?_ | refine uBb false ?_ ) | (refine isLd ?_; first | refine uL1 ?_ ) | (refine isCl ?_; first | refine uC (hI) ?_ | refine uC (hJ) ?_ | refine uP ?_) | (refine isFa ?_; first | refine uP ?_) | refine uBu false ?_ | refine uP ?_ | refine uBx ?_ ) | refine zad ?_ | refine wT fun _ => ?_ | refine wF fun _ => ?_)
                  exact zah (by rfl) (zas (by rw [hdef]; simp [bareP, hd]))
          · have hJ := inO h4
            have hq : quantOK p = false := by
              have h5 : ¬ ((1 ≤ p.max ∧ p.min ≤ p.max) ∧ p.max ≤ 20) := fun h => h4 ⟨by split <;> omega, h.2⟩
              unfold quantOK; simp [h1, h2, h3]; omega
            rw [hq] at hdef
            rcases hpl with ⟨hmn, hmx⟩ | ⟨hmn, hmx⟩ | hmn
            all_goals
              repeat (first | refine zac ?_ | refine zaa ?_ | ((first | refine zab ?_ | refine zae ?_); (first | change W _ _ _ _ _ | skip)) | (refine isRL ?_; first | refine uMv ?_ | refine uAs ?_ | refine uO ?_ | (refine isBin ?_; first | refine uBb true ?_ | refine uBb false ?_ ) | (refine isLd ?_; first | refine uL1 ?_ ) | (refine isCl ?_; first | refine uC (hI) ?_ | refine uC (hJ) ?_ | refine uP ?_) | (refine isFa ?_; first | refine uP ?_) | refine uBu true ?_ | refine uBu false ?_ | refine uP ?_ | refine uBx ?_ ) | refine zad ?_ | refine wT fun _ => ?_ | refine wF fun _ => ?_)
              refine zah (y' := vB false) ?_ ?_
              · rfl
              · exact zas (by rw [hdef]; rfl)
      · have hI := inO h2
        have hq : quantOK p = false := by unfold quantOK; simp [h1]; omega
        rw [hq] at hdef
        have hmn : ¬ p.min = 0 := by omega
        repeat (first | refine zac ?_ | refine zaa ?_ | ((first | refine zab ?_ | refine zae ?_); (first | change W _ _ _ _ _ | skip)) | (refine isRL ?_; first | refine uMv ?_ | refine uAs ?_ | refine uO ?_ | (refine isBin ?_; first | refine uBb true ?_ | refine uBb false ?_ ) | (refine isLd ?_; first | refine uL1 ?_ ) | (refine isCl ?_; first | refine uC (hI) ?_ | refine uP ?_) | (refine isFa ?_; first | refine uP ?_) | refine uBu true ?_ | refine uP ?_ | refine uBx ?_ ) | refine zad ?_ | refine wT fun _ => ?_ | refine wF fun _ => ?_)
        refine zah (y' := vB false) ?_ ?_
        · rfl
        · exact zas (by rw [hdef]; rfl)
    · have hq : quantOK p = false := by unfold quantOK; simp [h1]
      rw [hq] at hdef
      rcases hpl with ⟨hmn, hmx⟩ | ⟨hmn, hmx⟩ | hmn
      all_goals
        repeat (first | refine zac ?_ | refine zaa ?_ | ((first | refine zab ?_ | refine zae ?_); (first | change W _ _ _ _ _ | skip)) | (refine isRL ?_; first | refine uMv ?_ | refine uAs ?_ | refine uO ?_ | (refine isBin ?_; first | refine uBb true ?_ | refine uBb false ?_ ) | (refine isLd ?_; first | refine uL1 ?_ ) | (refine isCl ?_; first | refine uP ?_) | (refine isFa ?_; first | refine uP ?_) | refine uP ?_ | refine uBx ?_ ) | refine zad ?_ | refine wT fun _ => ?_ | refine wF fun _ => ?_)
        exact zah (by rfl) (zas (by rw [hdef]; rfl))
  rw [if_neg k1, if_neg k2, if_neg (by omega), if_neg k5] at hdef
  have hpl : (p.min = 0 ∧ p.max = 0) ∨ (p.min = 0 ∧ ¬ p.max = 0) ∨ ¬ p.min = 0 := by omega
  rcases hpl with ⟨hmn, hmx⟩ | ⟨hmn, hmx⟩ | hmn
  all_goals
    repeat (first | refine zac ?_ | refine zaa ?_ | ((first | refine zab ?_ | refine zae ?_); (first | change W _ _ _ _ _ | skip)) | (refine isRL ?_; first | refine uMv ?_ | refine uAs ?_ | refine uO ?_ | (refine isBin ?_; first | refine uBb true ?_ | refine uBb false ?_ ) | (refine isLd ?_; first | refine uL1 ?_ ) | (refine isFa ?_; first | refine uP ?_) | refine uP ?_ | refine uBx ?_ ) | refine zad ?_ | refine wF fun _ => ?_)
    exact zah (by rfl) (zas hdef.symm)
end Go.Proofs.YtjhkehloipmjfaaGreat
