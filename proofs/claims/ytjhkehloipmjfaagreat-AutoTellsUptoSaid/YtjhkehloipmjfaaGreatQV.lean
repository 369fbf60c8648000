/- Walks: runs over a path are counted. -/
import Derived.Test.YtjhkehloipmjfaaGreatMK
import Derived.Test.YtjhkehloipmjfaaGreatQ0
import Derived.Test.YtjhkehloipmjfaaGreatQU
import Derived.Test.YtjhkehloipmjfaaGreatQ5
set_option maxRecDepth 100000
set_option maxHeartbeats 16000000
namespace Go.Proofs.YtjhkehloipmjfaaGreat
open Go.RowKit
def rnOf (m : Mach) (fit : List (List Bool)) (g : Gr) (ns es : List Int) : Rn :=
  ⟨m.moves, fun i v => staysB m fit (ns[i]?.getD 0) v, fun i v => goesB m fit (es[i]?.getD 0) (alongF g (es[i]?.getD 0) (ns[i]?.getD 0) (ns[i + 1]?.getD 0)) v, es.length⟩
def runS (m : Mach) (g : Gr) (fit : List (List Bool)) (ns es : List Int) (e : List (Value × VV)) : Obs :=
  [(1000, .obj 95 [.d (.sl (m.elems.map encP)), .d (.sl (m.moves.map encMv)), .d (.v (.int .i64 m.states)), .d (.sl (g.nodes.map encNd)), .d (.sl (g.edges.map encEd)), .d (.sl (fit.map encR)), .d (.sl (ns.map encI)), .d (.sl (es.map encI)), .mr 1001]), (1001, .mp e)]
def InvK (R : Rn) (n : Nat) (e : List (Value × VV)) : Prop := ∀ p ∈ e, ∃ (s : Int) (i : Nat), (0 ≤ s ∧ s < n ∧ i ≤ R.L) ∧ p = (pl s i, vI ((R.runs n s i : Nat) : Int))
theorem zhZ {s : Int} {i : Nat} (h0 : 0 ≤ s) (h1 : s ≤ 1000000) (hi : i ≤ 1000000) : IsPl (pl s i) :=
  ⟨s, i, rfl, by unfold Lit.wf; simp only [Bool.and_eq_true, decide_eq_true_eq]; exact ⟨Int.le_trans (by decide) h0, Int.le_trans h1 (by decide)⟩, by unfold Lit.wf; simp only [Bool.and_eq_true, decide_eq_true_eq]; exact ⟨Int.le_trans (by decide) (Int.natCast_nonneg i), Int.le_trans (Int.ofNat_le.2 hi) (by decide)⟩⟩
theorem InvK.keys {R : Rn} {n : Nat} {e : List (Value × VV)} (h : InvK R n e) (hn : n ≤ 1000000) (hL : R.L ≤ 1000000) : ∀ p ∈ e, IsPl p.1 := fun p hp => by
  obtain ⟨s, i, ⟨h0, h1, h2⟩, rfl⟩ := h p hp
  exact zhZ h0 (by omega) (by omega)
theorem InvK.same {R : Rn} {n : Nat} {e : List (Value × VV)} (h : InvK R n e) {s : Int} {i : Nat} : ∀ p ∈ e, p.1 = pl s i → p.2 = vI ((R.runs n s i : Nat) : Int) := fun p hp he => by
  obtain ⟨s', i', _, rfl⟩ := h p hp
  obtain ⟨rfl, e2⟩ := zmB he
  obtain rfl : i' = i := by omega
  rfl
structure RunOk (m : Mach) (n : Nat) (g : Gr) (fit : List (List Bool)) (ns es : List Int) : Prop where
  mach : MachOk m n
  path : PathOk g ns es
  few : es.length ≤ 1000
  nodes : ∀ x ∈ ns, FitOk 1 m fit x
  edges : ∀ x ∈ es, FitOk 2 m fit x
theorem zjw {m : Mach} {n : Nat} {g : Gr} {fit : List (List Bool)} {ns es : List Int} {rk : Int → Nat} (hok : RunOk m n g fit ns es) (hR : (rnOf m fit g ns es).Ok rk n) : ∀ (k : Nat) (s : Int) (i : Nat) (e : List (Value × VV)), (rnOf m fit g ns es).mu rk n s i < k → 0 ≤ s → s < n → i ≤ es.length → InvK (rnOf m fit g ns es) n e →
    CallsN Tryz.prog 40 [.one (.po 1000 0), .dat [.v (.int .i64 s), .v (.int .i64 i)]] (runS m g fit ns es e) (fun y σ1 => ∃ e' : List (Value × VV), y = vI (((rnOf m fit g ns es).runs n s i : Nat) : Int) ∧ σ1 = runS m g fit ns es e' ∧ InvK (rnOf m fit g ns es) n e')
  | 0, _, _, _, h, _, _, _, _ => by omega
  | k + 1, s, i, e, hmu, h0, h1, hi, hInv => by
    have ih := zjw hok hR k
    obtain ⟨hM, hP, hfew, hfn, hfe⟩ := hok
    have hML : (rnOf m fit g ns es).L = es.length := rfl
    have hMv : (rnOf m fit g ns es).mv = m.moves := rfl
    obtain ⟨hst, hsm, hml, hL, hel⟩ := hM
    have hks := hInv.keys hsm (by omega)
    have hkey : IsPl (pl s i) := zhZ h0 (by omega) (by omega)
    have hln : (ns.map encI).length = ns.length := List.length_map _
    have hle : (es.map encI).length = es.length := List.length_map _
    have hlm : (m.moves.map encMv).length = m.moves.length := List.length_map _
    have hPl := hP.len
    obtain ⟨x, hx⟩ : ∃ x, ns[i]? = some x := ⟨_, List.getElem?_eq_getElem (by omega)⟩
    by_cases hin : ∃ p ∈ e, p.1 = pl s i
    · have hgot : if true = true then (∃ p ∈ e, p.1 = pl s i) ∧ ∀ p ∈ e, p.1 = pl s i → p.2 = vI (((rnOf m fit g ns es).runs n s i : Nat) : Int) else (∀ p ∈ e, p.1 ≠ pl s i) ∧ vI (((rnOf m fit g ns es).runs n s i : Nat) : Int) = vI 0 := by
        rw [if_pos rfl]; exact ⟨hin, hInv.same⟩
      unfold runS
      (refine zam (Ty := Ty) zag Tryz.func40 rfl rfl rfl (by rfl) fun w0 S0 hp => ?_; simp only [argsF, List.zipIdx_cons, List.zipIdx_nil, List.map_cons, List.map_nil, Nat.zero_add])
      repeat' (first | refine zac ?_ | refine zaa ?_ | ((first | refine zab ?_ | refine zae ?_ ); (first | change W _ _ _ _ _ | change Exists _ )) | (refine isRL ?_; first | refine uMv ?_ | refine uAs ?_ | refine uBx ?_ ) | refine wT fun _ => ?_ | refine uAny ?_ | (refine isD ?_; first | refine mLookS (b := true) hks hkey hgot ?_ | refine mMv ?_ | refine mAs ?_ | (refine imLd ?_; first | refine mLb ?_ | refine mP ?_) | (refine imFa ?_; first | refine mP ?_) | refine mNp ?_ | refine mP ?_ ) )
      exact zaw (by rfl) rfl ghasA ⟨e, rfl, rfl, hInv⟩
    · have hno : ∀ p ∈ e, p.1 ≠ pl s i := fun p hp he => hin ⟨p, hp, he⟩
      have hgot : if false = true then (∃ p ∈ e, p.1 = pl s i) ∧ ∀ p ∈ e, p.1 = pl s i → p.2 = vI 0 else (∀ p ∈ e, p.1 ≠ pl s i) ∧ vI 0 = vI 0 := by
        rw [if_neg (by decide)]; exact ⟨hno, rfl⟩
      have hrun := hR.runs_eq h0 h1 i
      obtain ⟨A, hA⟩ : ∃ A : Nat → Nat, ∀ j, A j = (rnOf m fit g ns es).base s i + (rnOf m fit g ns es).tot (fun d => (rnOf m fit g ns es).runs n d i) (fun d => (rnOf m fit g ns es).runs n d (i + 1)) s i (m.moves.take j) := ⟨_, fun _ => rfl⟩
      have hA0 : A 0 = (rnOf m fit g ns es).base s i := by rw [hA, List.take_zero]; rfl
      have hAl : ∀ j, A j ≤ 1 + 1001 * j := fun j => by
        rw [hA]
        have q1 := (rnOf m fit g ns es).tot_le (a := fun d => (rnOf m fit g ns es).runs n d i) (b := fun d => (rnOf m fit g ns es).runs n d (i + 1)) (fun d => (rnOf m fit g ns es).runs_le n d i) (fun d => (rnOf m fit g ns es).runs_le n d (i + 1)) s i (m.moves.take j)
        have q2 : (rnOf m fit g ns es).base s i ≤ 1 := by unfold Rn.base; split <;> omega
        have q3 : (m.moves.take j).length ≤ j := by rw [List.length_take]; omega
        have q4 : 1001 * (m.moves.take j).length ≤ 1001 * j := Nat.mul_le_mul_left _ q3
        omega
      have hAn : ∀ (j : Nat) (v : Mv), m.moves[j]? = some v → A (j + 1) = A j + if v.src = s then (rnOf m fit g ns es).part (fun d => (rnOf m fit g ns es).runs n d i) (fun d => (rnOf m fit g ns es).runs n d (i + 1)) i v else 0 := fun j v hv => by
        rw [hA, hA, (rnOf m fit g ns es).tot_next _ _ s i hv, Nat.add_assoc]
      have hfin : (rnOf m fit g ns es).runs n s i = min (A m.moves.length) 1001 := by
        rw [hrun, hA, List.take_length, hMv]; rfl
      have hmuS : ∀ v ∈ m.moves, v.src = s → staysB m fit x v = true → (rnOf m fit g ns es).mu rk n v.dst i < k := fun v hv hvs hvb => by
        have := hR.stay (i := i) hv (by show staysB m fit (ns[i]?.getD 0) v = true; rw [hx]; exact hvb)
        rw [hvs] at this; omega
      have hmuG : ∀ v ∈ m.moves, v.src = s → i < es.length → (rnOf m fit g ns es).mu rk n v.dst (i + 1) < k := fun v hv hvs hlt => by
        have := hR.goes (i := i) hv hlt
        rw [hvs] at this; omega
      have hSt := fun (v : Mv) (hv : v ∈ m.moves) => zlk m fit v x (hfn x (List.mem_of_getElem? hx)) (hel v hv)
      unfold encA at hSt
      have hor : (s = 1 ∧ i = es.length) ∨ (s = 1 ∧ ¬ i = es.length) ∨ ¬ s = 1 := by omega
      have hbase : ((A 0 : Nat) : Int) = if s = 1 ∧ i = es.length then 1 else 0 := by
        rw [hA0]; unfold Rn.base; rw [hML]; split <;> rfl
      unfold runS
      (refine zam (Ty := Ty) zag Tryz.func40 rfl rfl rfl (by rfl) fun w0 S0 hp => ?_; simp only [argsF, List.zipIdx_cons, List.zipIdx_nil, List.map_cons, List.map_nil, Nat.zero_add])
      iterate 29 (first | refine zac ?_ | refine zaa ?_ | ((first | refine zab ?_ | refine zaf ?_ ); (first | change W _ _ _ _ _ )) | (refine isRL ?_; first | refine uMv ?_ | refine uAs ?_ | refine uBx ?_ ) | refine wF fun _ => ?_ | refine uAny ?_ | (refine isD ?_; first | refine mLookS (b := false) hks hkey hgot ?_ | refine mMv ?_ | refine mAs ?_ | (refine imLd ?_; first | refine mLb ?_ | refine mP ?_) | (refine imFa ?_; first | refine mP ?_) | refine mNp ?_ | refine mP ?_ ) )
      refine zkY 5 [(0, .one (.po 1000 0)), (3, .one (.po 3 0)), (4, vI 0), (7, vI ((A 0 : Nat) : Int))] ((3, .box 98 [.v (.int .i64 s), .v (.int .i64 i)]) :: runS m g fit ns es e) ?_ ?_
      · rcases hor with hb | hb | hb
        all_goals first | (rw [if_pos (by omega)] at hbase; obtain ⟨hb1, hb2⟩ := hb) | rw [if_neg (by omega)] at hbase
        all_goals
          repeat' (first | refine zac ?_ | refine zaa ?_ | ((first | refine zab ?_ | refine zaf ?_ | refine mN ?_); (first | change W _ _ _ _ _ | skip)) | (refine isRL ?_; first | refine uAs ?_ ) | refine wT fun _ => ?_ | refine wF fun _ => ?_ | refine uAny ?_ | (refine isD ?_; first | refine mMv ?_ | refine mO ?_ | (refine imBin ?_; first | refine mBb true ?_ | refine mBb false ?_ ) | (refine imLd ?_; first | refine mL1 ?_ | refine mP ?_) | (refine imCl ?_; first | refine mP ?_) | (refine imFa ?_; first | refine mP ?_) | refine mNp ?_ | refine mP ?_ ) )
          exact ⟨by simp only [hbase]; (repeat (first | exact zer _ | refine zbk (by rfl) ?_)), subA⟩
      clear hor
      unfold runS
      repeat' (first | refine zac ?_ | refine zaa ?_ | ((first | refine zab ?_ ); (first | change W _ _ _ _ _ )) | (refine isRL ?_; first | refine uMv ?_ | (refine isLd ?_; first | refine uP ?_) | (refine isCl ?_; first | refine uP ?_) | (refine isFa ?_; first | refine uP ?_) | refine uNp ?_ ) | refine zad ?_ )
      refine zaL (α := Nat × List (Value × VV)) (fun z => [(0, .one (.po 1000 0)), (3, .one (.po 3 0)), (4, vI 0), (7, vI ((A z.1 : Nat) : Int)), (40, vL (m.moves.map encMv)), (41, vI ((m.moves.map encMv).length : Int)), (42, vI z.1)])
        (fun z => (3, .box 98 [.v (.int .i64 s), .v (.int .i64 i)]) :: runS m g fit ns es z.2)
        (fun z => z.1 ≤ m.moves.length ∧ InvK (rnOf m fit g ns es) n z.2) (fun z => m.moves.length - z.1) (0, e) ⟨Nat.zero_le _, hInv⟩ subA subA ?_
      rintro ⟨j, e1⟩ ⟨hj, hI1⟩
      dsimp only at hj hI1 ⊢
      have hAj := hAl j
      by_cases hlt : j < m.moves.length
      · obtain ⟨v, hv⟩ : ∃ v, m.moves[j]? = some v := ⟨_, List.getElem?_eq_getElem hlt⟩
        have hvm := List.mem_of_getElem? hv
        have hnx := hAn j v hv
        obtain ⟨b1, b2, b3, b4⟩ := hL v hvm
        have hev := hel v hvm
        have hSv := hSt v hvm
        unfold encMv at hSv
        unfold runS
        by_cases hs : v.src = s
        · rw [if_pos hs] at hnx
          unfold Rn.part at hnx
          have hst0 : (rnOf m fit g ns es).st i v = staysB m fit x v := by
            show staysB m fit (ns[i]?.getD 0) v = _
            rw [hx]; rfl
          rw [hst0] at hnx
          cases hsb : staysB m fit x v with
          | true =>
            rw [hsb] at hSv hnx
            rw [if_pos rfl] at hnx
            have hle1 := (rnOf m fit g ns es).runs_le n v.dst i
            have hC := ih v.dst i e1 (hmuS v hvm hs hsb) b3 b4 hi hI1
            unfold runS at hC
            repeat' (first | refine zac ?_ | refine zaa ?_ | ((first | refine zab ?_ | refine zaf ?_ | refine mN ?_); (first | change W _ _ _ _ _ | change Exists _ )) | (refine isRL ?_; first | refine uNx hC (fun e2 hI2 => ?_) | refine uMv ?_ | refine uAs ?_ | (refine isBin ?_; first | refine uIb ?_ | refine uBb true ?_ | refine uBb false ?_ ) | (refine isLd ?_; first | refine uLp ?_ | refine uL1 ?_ ) | (refine isFa ?_; first | refine uP ?_) | (refine isBd ?_; first | refine uBd ?_ ) | (refine isSt ?_; first | refine uSw ?_ ) | refine uX ?_ | refine uN ?_ ) | refine zad ?_ | refine wT fun _ => ?_ | refine wF fun _ => ?_ | refine uAny ?_ | (refine isD ?_; first | refine mMv ?_ | (refine imLd ?_; first | refine mLb ?_ | refine mL1 ?_ | refine mL2 ?_ | refine mP ?_) | (refine imCl ?_; first | refine mC (hSv) ?_ ) | (refine imFa ?_; first | refine mP ?_) | refine mX ?_ | refine mNp ?_ ) )
            exact ⟨(j + 1, e2), by show _ - (j + 1) < _; omega, ⟨by show j + 1 ≤ _; omega, hI2⟩, (by simp only [hnx, Int.natCast_add]; exact subA), subA⟩
          | false =>
            rw [hsb] at hSv hnx
            rw [if_neg (by decide)] at hnx
            by_cases hlti : i < es.length
            · obtain ⟨ed, hed⟩ : ∃ ed, es[i]? = some ed := ⟨_, List.getElem?_eq_getElem hlti⟩
              obtain ⟨y, hy⟩ : ∃ y, ns[i + 1]? = some y := ⟨_, List.getElem?_eq_getElem (by omega)⟩
              have hyi : (ns.map encI)[((i : Int) + 1).toNat]? = some (encI y) := by rw [show ((i : Int) + 1).toNat = i + 1 by omega, List.getElem?_map, hy]; rfl
              have hAl := zlx g ed x y
              have hGo := zmr m fit v ed (alongF g ed x y) (hfe ed (List.mem_of_getElem? hed)) hev
              unfold encA encMv at hGo
              unfold encG at hAl
              have hgo0 : (rnOf m fit g ns es).go i v = goesB m fit ed (alongF g ed x y) v := by
                show goesB m fit (es[i]?.getD 0) (alongF g (es[i]?.getD 0) (ns[i]?.getD 0) (ns[i + 1]?.getD 0)) v = _
                rw [hx, hy, hed]; rfl
              rw [hgo0] at hnx
              cases hgb : goesB m fit ed (alongF g ed x y) v with
              | true =>
                rw [hgb] at hGo hnx
                rw [if_pos ⟨hlti, rfl⟩] at hnx
                have hle1 := (rnOf m fit g ns es).runs_le n v.dst (i + 1)
                have hC := ih v.dst (i + 1) e1 (hmuG v hvm hs hlti) b3 b4 (by omega) hI1
                rw [Int.natCast_add, Int.natCast_one] at hC
                unfold runS at hC
                repeat' (first | refine zac ?_ | refine zaa ?_ | ((first | refine zab ?_ | refine zaf ?_ | refine mN ?_); (first | change W _ _ _ _ _ | change Exists _ )) | (refine isRL ?_; first | refine uNx hC (fun e2 hI2 => ?_) | refine uMv ?_ | refine uAs ?_ | (refine isBin ?_; first | refine uIb ?_ | refine uBb true ?_ | refine uBb false ?_ ) | (refine isLd ?_; first | refine uLp ?_ | refine uL1 ?_ ) | (refine isFa ?_; first | refine uP ?_) | (refine isBd ?_; first | refine uBd ?_ ) | (refine isSt ?_; first | refine uSw ?_ ) | refine uX ?_ | refine uN ?_ ) | refine zad ?_ | refine wT fun _ => ?_ | refine wF fun _ => ?_ | refine uAny ?_ | (refine isD ?_; first | refine mMv ?_ | refine mAs ?_ | (refine imBin ?_; first | refine mIb ?_ | refine mBb true ?_ ) | (refine imLd ?_; first | refine mLb ?_ | refine mL1 ?_ | refine mL2 ?_ | refine mP ?_) | (refine imCl ?_; first | refine mC (hSv) ?_ | refine mC (hAl) ?_ | refine mC (hGo) ?_ | refine mP ?_) | (refine imFa ?_; first | refine mP ?_) | refine mX ?_ | refine mNp ?_ ) )
                exact ⟨(j + 1, e2), by show _ - (j + 1) < _; omega, ⟨by show j + 1 ≤ _; omega, hI2⟩, (by simp only [hnx, Int.natCast_add]; exact subA), subA⟩
              | false =>
                rw [hgb] at hGo hnx
                rw [if_neg (fun h => by cases h.2), Nat.add_zero] at hnx
                repeat' (first | refine zac ?_ | refine zaa ?_ | ((first | refine zab ?_ | refine zaf ?_ | refine mN ?_); (first | change W _ _ _ _ _ | change Exists _ )) | (refine isRL ?_; first | refine uMv ?_ | (refine isBin ?_; first | refine uIb ?_ | refine uBb true ?_ | refine uBb false ?_ ) | (refine isLd ?_; first | refine uLp ?_ | refine uL1 ?_ ) | (refine isFa ?_; first | refine uP ?_) | (refine isSt ?_; first | refine uSw ?_ ) | refine uX ?_ | refine uN ?_ ) | refine zad ?_ | refine wT fun _ => ?_ | refine wF fun _ => ?_ | refine uAny ?_ | (refine isD ?_; first | refine mMv ?_ | refine mAs ?_ | (refine imBin ?_; first | refine mIb ?_ | refine mBb true ?_ ) | (refine imLd ?_; first | refine mLb ?_ | refine mL1 ?_ | refine mL2 ?_ | refine mP ?_) | (refine imCl ?_; first | refine mC (hSv) ?_ | refine mC (hAl) ?_ | refine mC (hGo) ?_ | refine mP ?_) | (refine imFa ?_; first | refine mP ?_) | refine mX ?_ | refine mNp ?_ ) )
                exact ⟨(j + 1, e1), by show _ - (j + 1) < _; omega, ⟨by show j + 1 ≤ _; omega, hI1⟩, (by simp only [hnx]; exact subA), subA⟩
            · rw [if_neg (fun h => hlti h.1), Nat.add_zero] at hnx
              repeat' (first | refine zac ?_ | refine zaa ?_ | ((first | refine zab ?_ | refine zaf ?_ | refine mN ?_); (first | change W _ _ _ _ _ | change Exists _ )) | (refine isRL ?_; first | refine uMv ?_ | (refine isBin ?_; first | refine uIb ?_ | refine uBb true ?_ | refine uBb false ?_ ) | (refine isLd ?_; first | refine uLp ?_ | refine uL1 ?_ ) | (refine isFa ?_; first | refine uP ?_) | (refine isSt ?_; first | refine uSw ?_ ) | refine uX ?_ | refine uN ?_ ) | refine zad ?_ | refine wT fun _ => ?_ | refine wF fun _ => ?_ | refine uAny ?_ | (refine isD ?_; first | refine mMv ?_ | (refine imBin ?_; first | refine mBb false ?_ ) | (refine imLd ?_; first | refine mLb ?_ | refine mL1 ?_ | refine mL2 ?_ | refine mP ?_) | (refine imCl ?_; first | refine mC (hSv) ?_ | refine mP ?_) | (refine imFa ?_; first | refine mP ?_) | refine mX ?_ | refine mNp ?_ ) )
              exact ⟨(j + 1, e1), by show _ - (j + 1) < _; omega, ⟨by show j + 1 ≤ _; omega, hI1⟩, (by simp only [hnx]; exact subA), subA⟩
        · rw [if_neg hs, Nat.add_zero] at hnx
          repeat' (first | refine zac ?_ | refine zaa ?_ | ((first | refine zab ?_ | refine zaf ?_ | refine zaD ?_ ); (first | change W _ _ _ _ _ | change Exists _ )) | (refine isRL ?_; first | refine uMv ?_ | (refine isBin ?_; first | refine uIb ?_ | refine uBb true ?_ ) | (refine isLd ?_; first | refine uLp ?_ | refine uL1 ?_ ) | (refine isFa ?_; first | refine uP ?_) | (refine isSt ?_; first | refine uSw ?_ ) | refine uX ?_ | refine uN ?_ ) | refine zad ?_ | refine wT fun _ => ?_ )
          exact ⟨(j + 1, e1), by show _ - (j + 1) < _; omega, ⟨by show j + 1 ≤ _; omega, hI1⟩, (by simp only [hnx]; exact subA), subA⟩
      · obtain rfl : j = m.moves.length := by omega
        have hmin : (if (1001 : Int) < ((A m.moves.length : Nat) : Int) then (1001 : Int) else ((A m.moves.length : Nat) : Int)) = (((rnOf m fit g ns es).runs n s i : Nat) : Int) := by
          rw [hfin]; split <;> omega
        unfold runS
        have hks1 := hI1.keys hsm (by omega)
        repeat' (first | refine zac ?_ | refine zaa ?_ | ((first | refine zab ?_ | refine zaD ?_ | refine zae ?_ | refine mN ?_); (first | change W _ _ _ _ _ | change EndN _ _ _ _ _ _ | skip)) | (refine isRL ?_; first | refine uMinY hmin ?_ | refine uMuS hks1 hkey (fun e2 he2 => ?_) | refine uMv ?_ | refine uAs ?_ | (refine isBin ?_; first | refine uBb false ?_ ) ) | refine wF fun _ => ?_ | refine uAnyL ?_ | (refine isD ?_; first | refine mMv ?_ | (refine imLd ?_; first | refine mLb ?_ | refine mP ?_) | (refine imFa ?_; first | refine mP ?_) | refine mNp ?_ ) )
        have hI2 : InvK (rnOf m fit g ns es) n e2 := fun p hp => by
          rcases he2 p hp with h | h
          · exact ⟨s, i, ⟨h0, h1, hi⟩, h⟩
          · exact hI1 p h
        exact zaw (by rfl) rfl ghasA ⟨e2, rfl, rfl, hI2⟩
end Go.Proofs.YtjhkehloipmjfaaGreat
