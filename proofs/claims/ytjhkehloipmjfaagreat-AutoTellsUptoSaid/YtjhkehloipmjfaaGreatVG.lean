/- Walks: right patterns. -/
import Derived.Test.YtjhkehloipmjfaaGreatVF
set_option maxRecDepth 100000
set_option maxHeartbeats 4000000
namespace Go.Proofs.YtjhkehloipmjfaaGreat
open Go.RowKit
theorem zkz (l : List Pt) (g : FuncId) (caps : List (List D)) (f : Pt → Bool) (hg : ∀ e ∈ l, CallsV Tryz.prog g (.dat (encP e) :: caps.map fun q => .one (.d (.pi q))) (.val (vB (f e)))) :
    CallsV Tryz.prog 108 [vL (l.map encP), .one (.d (.fn g caps))] (.val (vI (idxF f l 0))) := by
  (refine zaj (Ty := Ty) zag Tryz.func108 rfl rfl rfl fun w0 S0 => ?_; simp only [argsF, List.zipIdx_cons, List.zipIdx_nil, List.map_cons, List.map_nil, Nat.zero_add])
  have hlm : (l.map encP).length = l.length := List.length_map _
  refine zbp (t := 0) rfl rfl fun hlim => ?_
  repeat (first | refine zac ?_ | refine zaa ?_ | ((first | refine zab ?_ ); (first | change W _ _ _ _ _ )) | (refine isRL ?_; first | refine uMv ?_ | refine uAs ?_ | (refine isCl ?_; first | refine uP ?_) ) | refine zad ?_ )
  refine zaL (α := Nat) (fun k => [(0, vL (l.map encP)), (1, .one (.d (.fn g caps))), (7, vI ((l.map encP).length : Int)), (8, vI k)]) (fun _ => []) (fun k => k ≤ l.length ∧ idxF f l 0 = idxF f (l.drop k) k) (fun k => l.length - k) 0 ⟨Nat.zero_le _, rfl⟩ subA subA ?_
  intro k ⟨hk, hi⟩
  by_cases hlt : k < l.length
  · obtain ⟨q, hq⟩ : ∃ q, l[k]? = some q := ⟨_, List.getElem?_eq_getElem hlt⟩
    have hQ := hg q (List.mem_of_getElem? hq)
    have hd : l.drop k = q :: l.drop (k + 1) := by
      rw [List.drop_eq_getElem_cons hlt]
      rw [List.getElem?_eq_getElem hlt] at hq
      injection hq with hq
      rw [hq]
    rw [hd, zgf] at hi
    cases hf : f q with
    | true =>
      rw [hf] at hQ
      rw [hf, if_pos rfl] at hi
      repeat (first | refine zac ?_ | refine zaa ?_ | ((first | refine zab ?_ | refine zaf ?_ | refine zae ?_); (first | change W _ _ _ _ _ | skip)) | (refine isRL ?_; first | refine uMv ?_ | refine uAs ?_ | (refine isBin ?_; first | refine uBb true ?_ ) | (refine isLd ?_; first | refine uLp ?_ ) | (refine isCl ?_; first | refine uDc (hQ) ?_ ) | refine uX ?_ ) | refine zad ?_ | refine wT fun _ => ?_ )
      exact zah (by rfl) (zaU hi.symm)
    | false =>
      rw [hf] at hQ
      rw [hf, if_neg (by decide)] at hi
      repeat (first | refine zac ?_ | refine zaa ?_ | ((first | refine zab ?_ | refine zaf ?_ ); (first | change W _ _ _ _ _ | change Exists _ )) | (refine isRL ?_; first | refine uMv ?_ | refine uAs ?_ | (refine isBin ?_; first | refine uIb ?_ | refine uBb true ?_ ) | (refine isLd ?_; first | refine uLp ?_ ) | (refine isCl ?_; first | refine uDc (hQ) ?_ ) | refine uX ?_ ) | refine zad ?_ | refine wT fun _ => ?_ | refine wF fun _ => ?_)
      exact ⟨k + 1, by omega, ⟨hlt, hi⟩, subA, subA⟩
  · rw [List.drop_of_length_le (by omega), zgZ] at hi
    repeat (first | refine zac ?_ | refine zaa ?_ | ((first | refine zab ?_ | refine zaD ?_ | refine zae ?_); (first | change W _ _ _ _ _ | change EndQ _ _ _ _ _ _ )) | (refine isRL ?_; first | refine uAs ?_ | (refine isBin ?_; first | refine uBb false ?_ ) ) | refine wF fun _ => ?_)
    exact zah (by rfl) (zaU hi.symm)
theorem zeL (l : List Pt) (g : FuncId) (caps : List (List D)) (f : Pt → Bool) (hg : ∀ e ∈ l, CallsV Tryz.prog g (.dat (encP e) :: caps.map fun q => .one (.d (.pi q))) (.val (vB (f e)))) :
    CallsV Tryz.prog 84 [vL (l.map encP), .one (.d (.fn g caps))] (.val (vB (l.any f))) := by
  have hI := zkz l g caps f hg
  have hd := zeU f l 0
  (refine zaj (Ty := Ty) zag Tryz.func84 rfl rfl rfl fun w0 S0 => ?_; simp only [argsF, List.zipIdx_cons, List.zipIdx_nil, List.map_cons, List.map_nil, Nat.zero_add])
  cases ha : l.any f with
  | true =>
    rw [ha, decide_eq_true_eq] at hd
    repeat (first | refine zac ?_ | refine zaa ?_ | ((first | refine zab ?_ | refine zae ?_); (first | change W _ _ _ _ _ | change EndQ _ _ _ _ _ _ )) | (refine isRL ?_; first | refine uMv ?_ | refine uAs ?_ | (refine isBin ?_; first | refine uBb true ?_ ) | (refine isCl ?_; first | refine uC (hI) ?_ ) ))
    exact zah (by rfl) rfl
  | false =>
    rw [ha, decide_eq_false_iff_not] at hd
    repeat (first | refine zac ?_ | refine zaa ?_ | ((first | refine zab ?_ | refine zae ?_); (first | change W _ _ _ _ _ | change EndQ _ _ _ _ _ _ )) | (refine isRL ?_; first | refine uMv ?_ | refine uAs ?_ | (refine isBin ?_; first | refine uBb false ?_ ) | (refine isCl ?_; first | refine uC (hI) ?_ ) ))
    exact zah (by rfl) rfl
theorem zhd : ∀ (n : Nat) (_hn : n ≤ 50) (e : Pt), CallsV Tryz.prog 81 [.dat (encP e), vI n] (.val (vI (depthP n e)))
  | 0, _, e => by
    (refine zaj (Ty := Ty) zag Tryz.func81 rfl rfl rfl fun w0 S0 => ?_; simp only [argsF, List.zipIdx_cons, List.zipIdx_nil, List.map_cons, List.map_nil, Nat.zero_add])
    repeat (first | refine zac ?_ | refine zaa ?_ | ((first | refine zab ?_ | refine zae ?_); (first | change W _ _ _ _ _ | skip)) | (refine isRL ?_; first | refine uMv ?_ | refine uAs ?_ | (refine isBin ?_; first | refine uBb true ?_ ) | refine uBx ?_ ) | refine wT fun _ => ?_ )
    exact zah (by rfl) (zaU (by rw [zez]; rfl))
  | n + 1, hn, e => by
    have ih : ∀ q : Pt, CallsV Tryz.prog 81 [.dat (encP q), vI (((n + 1 : Nat) : Int) - 1)] (.val (vI (depthP n q))) := fun q => by
      rw [show ((n + 1 : Nat) : Int) - 1 = n by omega]; exact zhd n (by omega) q
    (refine zaj (Ty := Ty) zag Tryz.func81 rfl rfl rfl fun w0 S0 => ?_; simp only [argsF, List.zipIdx_cons, List.zipIdx_nil, List.map_cons, List.map_nil, Nat.zero_add])
    have hlm : (e.kids.map encP).length = e.kids.length := List.length_map _
    refine zac ?_
    repeat (first | refine zac ?_ | refine zaa ?_ | ((first | refine zab ?_ | refine zaf ?_ ); (first | change W _ _ _ _ _ )) | (refine isRL ?_; first | refine uMv ?_ | refine uAs ?_ | (refine isBin ?_; first | refine uBb false ?_ ) | (refine isLd ?_; first | refine uL1 ?_ ) | (refine isCl ?_; first | refine uP ?_) | (refine isFa ?_; first | refine uP ?_) | refine uBx ?_ ) | refine zad ?_ | refine wF fun _ => ?_)
    refine zaL (α := Nat) (fun k => [(1, vI ((n + 1 : Nat) : Int)), (2, .one (.po 2 0)), (5, vI (((e.kids.take k).foldl (fun d q => max d (depthP n q)) 0 : Nat) : Int)), (11, vL (e.kids.map encP)), (12, vI ((e.kids.map encP).length : Int)), (13, vI k)]) (fun _ => [(2, .box 34 (encP e))]) (fun k => k ≤ e.kids.length) (fun k => e.kids.length - k) 0 (Nat.zero_le _) subA subA ?_
    intro k hk
    refine zbp (t := 11) rfl rfl fun hlim => ?_
    by_cases hlt : k < e.kids.length
    · obtain ⟨q, hq⟩ : ∃ q, e.kids[k]? = some q := ⟨_, List.getElem?_eq_getElem hlt⟩
      have hQ := ih q
      have hnx := zbt (g := fun (d : Nat) q => max d (depthP n q)) (b := 0) hq
      repeat (first | refine zac ?_ | refine zaa ?_ | ((first | refine zab ?_ | refine zaf ?_ ); (first | change W _ _ _ _ _ | change Exists _ )) | (refine isRL ?_; first | refine uMv ?_ | refine uAs ?_ | (refine isBin ?_; first | refine uIb ?_ | refine uBb true ?_ ) | (refine isLd ?_; first | refine uLp ?_ | refine uLb ?_ ) | (refine isCl ?_; first | refine uC (hQ) ?_ | refine uP ?_) | (refine isSt ?_; first | refine uSw ?_ ) | refine uX ?_ | refine uN ?_) | refine zad ?_ | refine wT fun _ => ?_ )
      rw [zij, ← hnx]
      exact ⟨k + 1, by omega, hlt, subA, subA⟩
    · have hkl : k = e.kids.length := by omega
      subst hkl
      rw [List.take_length]
      have hle := zd8 (n + 1) e
      rw [zdh] at hle
      repeat (first | refine zac ?_ | refine zaa ?_ | ((first | refine zab ?_ | refine zaD ?_ | refine zae ?_); (first | change W _ _ _ _ _ | change EndQ _ _ _ _ _ _ )) | (refine isRL ?_; first | refine uMv ?_ | refine uAs ?_ | (refine isBin ?_; first | refine uIb ?_ | refine uBb false ?_ ) ) | refine wF fun _ => ?_)
      exact zah (by rfl) (zaU (by rw [zdh]; rfl))
theorem zke (e : Pt) : CallsV Tryz.prog 57 [.dat (encP e)] (.val (vI (depthP 50 e))) := by
  have h := zhd 50 (Nat.le_refl _) e
  have hle := zd8 50 e
  (refine zaj (Ty := Ty) zag Tryz.func57 rfl rfl rfl fun w0 S0 => ?_; simp only [argsF, List.zipIdx_cons, List.zipIdx_nil, List.map_cons, List.map_nil, Nat.zero_add])
  repeat (first | refine zac ?_ | refine zaa ?_ | ((first | refine zab ?_ | refine zae ?_); (first | change W _ _ _ _ _ | change EndQ _ _ _ _ _ _ )) | (refine isRL ?_; first | refine uAs ?_ | (refine isLd ?_; first | refine uLb ?_ ) | (refine isCl ?_; first | refine uC (h) ?_ | refine uP ?_) | refine uBx ?_ ))
  exact zah (by rfl) (zaU (by rw [if_neg]; omega))
theorem zbS {α : Type} {l : List α} {b : Bool} (h : decide (l.length = 0) = b) : l.isEmpty = b := by
  rw [← h]; cases l <;> simp
theorem ze5 (e : E) : CallsV Tryz.prog 83 [.dat (encE e)] (.val (vB (noneE e))) := by
  have hdef : noneE e = (e.kind == 0 && (emptyS e.name && (e.kids.isEmpty && zeroV e.val))) := rfl
  have hlm : (e.kids.map encE).length = e.kids.length := List.length_map _
  (refine zaj (Ty := Ty) zag Tryz.func83 rfl rfl rfl fun w0 S0 => ?_; simp only [argsF, List.zipIdx_cons, List.zipIdx_nil, List.map_cons, List.map_nil, Nat.zero_add])
  by_cases hk : e.kind = 0
  · cases hs : emptyS e.name with
    | false =>
      have hs2 := zaX _ _ hs
      repeat (first | refine zac ?_ | refine zaa ?_ | ((first | refine zab ?_ | refine zae ?_); (first | change W _ _ _ _ _ | change EndQ _ _ _ _ _ _ )) | (refine isRL ?_; first | refine uMv ?_ | refine uAs ?_ | refine uO ?_ | (refine isBin ?_; first | refine uBb true ?_ | refine uBb false ?_ ) | (refine isLd ?_; first | refine uL1 ?_ ) | (refine isFa ?_; first | refine uP ?_) | refine uP ?_ | refine uBx ?_ ))
      exact zah (by rfl) (zas (by rw [hdef, hs]; simp))
    | true =>
      have hs2 := zaX _ _ hs
      by_cases hl : e.kids.length = 0
      · have he := zbS (decide_eq_true hl)
        cases hz : zeroV e.val
        all_goals
          repeat (first | refine zac ?_ | refine zaa ?_ | ((first | refine zab ?_ | refine zae ?_); (first | change W _ _ _ _ _ | change EndQ _ _ _ _ _ _ )) | (refine isRL ?_; first | refine uMv ?_ | refine uAs ?_ | (refine isBin ?_; first | refine uBb true ?_ | refine uEq true ?_ | refine uEq false ?_) | (refine isLd ?_; first | refine uL1 ?_ ) | (refine isCl ?_; first | refine uP ?_) | (refine isFa ?_; first | refine uP ?_) | (refine isBd ?_; first | refine uBd ?_ ) | refine uP ?_ | refine uBx ?_ ))
          exact zah (by rfl) (zas (by rw [hdef, hs, he, hz, beq_iff_eq.2 hk]; rfl))
      · have he := zbS (decide_eq_false hl)
        repeat (first | refine zac ?_ | refine zaa ?_ | ((first | refine zab ?_ | refine zae ?_); (first | change W _ _ _ _ _ | change EndQ _ _ _ _ _ _ )) | (refine isRL ?_; first | refine uMv ?_ | refine uAs ?_ | refine uO ?_ | (refine isBin ?_; first | refine uBb true ?_ | refine uBb false ?_ ) | (refine isLd ?_; first | refine uL1 ?_ ) | (refine isCl ?_; first | refine uP ?_) | (refine isFa ?_; first | refine uP ?_) | refine uP ?_ | refine uBx ?_ ))
        exact zah (by rfl) (zas (by rw [hdef, hs, he]; simp))
  · repeat (first | refine zac ?_ | refine zaa ?_ | ((first | refine zab ?_ | refine zae ?_); (first | change W _ _ _ _ _ | change EndQ _ _ _ _ _ _ )) | (refine isRL ?_; first | refine uMv ?_ | refine uAs ?_ | refine uO ?_ | (refine isBin ?_; first | refine uBb false ?_ ) | (refine isLd ?_; first | refine uL1 ?_ ) | (refine isFa ?_; first | refine uP ?_) | refine uP ?_ | refine uBx ?_ ))
    exact zah (by rfl) (zas (by rw [hdef, beq_eq_false_iff_ne.2 hk]; rfl))
theorem inY {n a b : Int} (h : a ≤ n ∧ n ≤ b) : CallsV Tryz.prog 56 [vI n, vI a, vI b] (.val (vB true)) := by
  obtain ⟨h1, h2⟩ := h
  (refine zaj (Ty := Ty) zag Tryz.func56 rfl rfl rfl fun w0 S0 => ?_; simp only [argsF, List.zipIdx_cons, List.zipIdx_nil, List.map_cons, List.map_nil, Nat.zero_add])
  repeat (first | refine zac ?_ | refine zaa ?_ | ((first | refine zab ?_ | refine zae ?_); (first | change W _ _ _ _ _ | change EndQ _ _ _ _ _ _ )) | (refine isRL ?_; first | refine uMv ?_ | refine uAs ?_ | (refine isBin ?_; first | refine uBb true ?_ ) | refine uP ?_))
  exact zah (by rfl) rfl
theorem inO {n a b : Int} (h : ¬ (a ≤ n ∧ n ≤ b)) : CallsV Tryz.prog 56 [vI n, vI a, vI b] (.val (vB false)) := by
  (refine zaj (Ty := Ty) zag Tryz.func56 rfl rfl rfl fun w0 S0 => ?_; simp only [argsF, List.zipIdx_cons, List.zipIdx_nil, List.map_cons, List.map_nil, Nat.zero_add])
  by_cases h1 : a ≤ n
  · have h2 : ¬ n ≤ b := fun h2 => h ⟨h1, h2⟩
    clear h
    repeat (first | refine zac ?_ | refine zaa ?_ | ((first | refine zab ?_ | refine zae ?_); (first | change W _ _ _ _ _ | change EndQ _ _ _ _ _ _ )) | (refine isRL ?_; first | refine uMv ?_ | refine uAs ?_ | (refine isBin ?_; first | refine uBb true ?_ | refine uBb false ?_ ) | refine uP ?_))
    exact zah (by rfl) rfl
  · clear h
    repeat (first | refine zac ?_ | refine zaa ?_ | ((first | refine zab ?_ | refine zae ?_); (first | change W _ _ _ _ _ | change EndQ _ _ _ _ _ _ )) | (refine isRL ?_; first | refine uMv ?_ | refine uAs ?_ | refine uO ?_ | (refine isBin ?_; first | refine uBb false ?_ ) | refine uP ?_))
    exact zah (by rfl) rfl
theorem zi5 (p : Pt) : CallsV Tryz.prog 82 [.dat (encP p)] (.val (vB (elemOK p))) := by
  have hdef : elemOK p = (p.kids.isEmpty && (noneE p.label || labelRight p.label) && (noneE p.wher || exprRight p.wher)) := rfl
  have hlm : (p.kids.map encP).length = p.kids.length := List.length_map _
  have hN := ze5 p.label
  have hM := ze5 p.wher
  have hL := zlA p.label
  have hE := zhA p.wher
  (refine zaj (Ty := Ty) zag Tryz.func82 rfl rfl rfl fun w0 S0 => ?_; simp only [argsF, List.zipIdx_cons, List.zipIdx_nil, List.map_cons, List.map_nil, Nat.zero_add])
  by_cases hl : p.kids.length = 0
  · have he := zbS (decide_eq_true hl)
    cases h1 : noneE p.label
    · cases h2 : labelRight p.label
      · rw [h1] at hN
        rw [h2] at hL
        repeat (first | refine zac ?_ | refine zaa ?_ | ((first | refine zab ?_ | refine zae ?_); (first | change W _ _ _ _ _ | change EndQ _ _ _ _ _ _ )) | (refine isRL ?_; first | refine uMv ?_ | refine uAs ?_ | refine uO ?_ | (refine isBin ?_; first | refine uBb true ?_ ) | (refine isLd ?_; first | refine uL1 ?_ ) | (refine isCl ?_; first | refine uC (hN) ?_ | refine uC (hL) ?_ | refine uP ?_) | (refine isFa ?_; first | refine uP ?_) | refine uP ?_ | refine uBx ?_ ))
        exact zah (by rfl) (zas (by rw [hdef, he, h1, h2]; rfl))
      · cases h3 : noneE p.wher
        · cases h4 : exprRight p.wher
          all_goals
            rw [h1] at hN
            rw [h2] at hL
            rw [h3] at hM
            rw [h4] at hE
            repeat (first | refine zac ?_ | refine zaa ?_ | ((first | refine zab ?_ | refine zae ?_); (first | change W _ _ _ _ _ | change EndQ _ _ _ _ _ _ )) | (refine isRL ?_; first | refine uMv ?_ | refine uAs ?_ | (refine isBin ?_; first | refine uBb true ?_ ) | (refine isLd ?_; first | refine uL1 ?_ ) | (refine isCl ?_; first | refine uC (hN) ?_ | refine uC (hL) ?_ | refine uC (hM) ?_ | refine uC (hE) ?_ | refine uP ?_) | (refine isFa ?_; first | refine uP ?_) | refine uP ?_ | refine uBx ?_ ))
            exact zah (by rfl) (zas (by rw [hdef, he, h1, h2, h3, h4]; rfl))
        · rw [h1] at hN
          rw [h2] at hL
          rw [h3] at hM
          repeat (first | refine zac ?_ | refine zaa ?_ | ((first | refine zab ?_ | refine zae ?_); (first | change W _ _ _ _ _ | change EndQ _ _ _ _ _ _ )) | (refine isRL ?_; first | refine uMv ?_ | refine uAs ?_ | refine uO ?_ | (refine isBin ?_; first | refine uBb true ?_ ) | (refine isLd ?_; first | refine uL1 ?_ ) | (refine isCl ?_; first | refine uC (hN) ?_ | refine uC (hL) ?_ | refine uC (hM) ?_ | refine uP ?_) | (refine isFa ?_; first | refine uP ?_) | refine uP ?_ | refine uBx ?_ ))
          exact zah (by rfl) (zas (by rw [hdef, he, h1, h2, h3]; rfl))
    · cases h3 : noneE p.wher
      · cases h4 : exprRight p.wher
        all_goals
          rw [h1] at hN
          rw [h3] at hM
          rw [h4] at hE
          repeat (first | refine zac ?_ | refine zaa ?_ | ((first | refine zab ?_ | refine zae ?_); (first | change W _ _ _ _ _ | change EndQ _ _ _ _ _ _ )) | (refine isRL ?_; first | refine uMv ?_ | refine uAs ?_ | refine uO ?_ | (refine isBin ?_; first | refine uBb true ?_ ) | (refine isLd ?_; first | refine uL1 ?_ ) | (refine isCl ?_; first | refine uC (hN) ?_ | refine uC (hM) ?_ | refine uC (hE) ?_ | refine uP ?_) | (refine isFa ?_; first | refine uP ?_) | refine uP ?_ | refine uBx ?_ ))
          exact zah (by rfl) (zas (by rw [hdef, he, h1, h3, h4]; rfl))
      · rw [h1] at hN
        rw [h3] at hM
        repeat (first | refine zac ?_ | refine zaa ?_ | ((first | refine zab ?_ | refine zae ?_); (first | change W _ _ _ _ _ | change EndQ _ _ _ _ _ _ )) | (refine isRL ?_; first | refine uMv ?_ | refine uAs ?_ | refine uO ?_ | (refine isBin ?_; first | refine uBb true ?_ ) | (refine isLd ?_; first | refine uL1 ?_ ) | (refine isCl ?_; first | refine uC (hN) ?_ | refine uC (hM) ?_ | refine uP ?_) | (refine isFa ?_; first | refine uP ?_) | refine uP ?_ | refine uBx ?_ ))
        exact zah (by rfl) (zas (by rw [hdef, he, h1, h3]; rfl))
  · have he := zbS (decide_eq_false hl)
    repeat (first | refine zac ?_ | refine zaa ?_ | ((first | refine zab ?_ | refine zae ?_); (first | change W _ _ _ _ _ | change EndQ _ _ _ _ _ _ )) | (refine isRL ?_; first | refine uMv ?_ | refine uAs ?_ | refine uO ?_ | (refine isBin ?_; first | refine uBb false ?_ ) | (refine isLd ?_; first | refine uL1 ?_ ) | (refine isCl ?_; first | refine uP ?_) | (refine isFa ?_; first | refine uP ?_) | refine uP ?_ | refine uBx ?_ ))
    exact zah (by rfl) (zas (by rw [hdef, he]; rfl))
theorem zjd (e : Pt) (h : CallsV Tryz.prog 58 [.dat (encP e)] (.val (vB (rightP e)))) : CallsV Tryz.prog 85 [.dat (encP e)] (.val (vB (!rightP e))) := by
  (refine zaj (Ty := Ty) zag Tryz.func85 rfl rfl rfl fun w0 S0 => ?_; simp only [argsF, List.zipIdx_cons, List.zipIdx_nil, List.map_cons, List.map_nil, Nat.zero_add])
  cases hr : rightP e with
  | true =>
    rw [hr] at h
    repeat (first | refine zac ?_ | refine zaa ?_ | ((first | refine zab ?_ | refine zae ?_); (first | change W _ _ _ _ _ | change EndQ _ _ _ _ _ _ )) | (refine isRL ?_; first | refine uAs ?_ | (refine isLd ?_; first | refine uLb ?_ ) | (refine isCl ?_; first | refine uC (h) ?_ ) | refine uBu false ?_ | refine uBx ?_ ))
    exact zah (by rfl) rfl
  | false =>
    rw [hr] at h
    repeat (first | refine zac ?_ | refine zaa ?_ | ((first | refine zab ?_ | refine zae ?_); (first | change W _ _ _ _ _ | change EndQ _ _ _ _ _ _ )) | (refine isRL ?_; first | refine uAs ?_ | (refine isLd ?_; first | refine uLb ?_ ) | (refine isCl ?_; first | refine uC (h) ?_ ) | refine uBu true ?_ | refine uBx ?_ ))
    exact zah (by rfl) rfl
end Go.Proofs.YtjhkehloipmjfaaGreat
