/- Walks: runs over a path are counted, by the document. -/
import Derived.Test.YtjhkehloipmjfaaGreatQ0
import Derived.Test.YtjhkehloipmjfaaGreatMK
import Derived.Test.YtjhkehloipmjfaaGreatQV
set_option maxRecDepth 100000
set_option maxHeartbeats 32000000
namespace Go.Proofs.YtjhkehloipmjfaaGreat
open Go.RowKit
theorem zmx {m : Mach} {n : Nat} {g : Gr} {fit : List (List Bool)} {ns es : List Int} {rk : Int → Nat} (hok : RunOk m n g fit ns es) (h2 : 2 ≤ n) (hR : (rnOf m fit g ns es).Ok rk n) :
    CallsV Tryz.prog 19 [.dat (encA m), .dat (encG g), vL (fit.map encR), .dat [.sl (ns.map encI), .sl (es.map encI)]] (.val (vI (((rnOf m fit g ns es).runs n 0 0 : Nat) : Int))) := by
  have hC := zjw hok hR _ 0 0 [] (Nat.lt_succ_self _) (by decide) (by omega) (Nat.zero_le _) (fun p hp => by cases hp)
  generalize (rnOf m fit g ns es).runs n 0 0 = r at hC ⊢
  refine CallsN.toV (R := fun y σ1 => ∃ _ : Unit, y = vI (r : Int) ∧ σ1 = [] ∧ True) ?_ rfl fun y σ1 ⟨_, h, _⟩ => h
  unfold encA encG
  unfold runS at hC
  (refine zam (Ty := Ty) zag Tryz.func19 rfl rfl rfl (by rfl) fun w0 S0 hp => ?_; simp only [argsF, List.zipIdx_cons, List.zipIdx_nil, List.map_cons, List.map_nil, Nat.zero_add])
  iterate 16 (first | refine zac ?_ | refine zaa ?_ | ((first | refine zab ?_ ); (first | change W _ _ _ _ _ )) | (refine isRL ?_; first | refine uMkM ?_ | refine uBdC ?_ | refine uBxG ?_ | refine uMv ?_ | refine uAs ?_ | (refine isLd ?_; first | refine uLb ?_ ) | refine uBx ?_ ))
  refine uRn 14 1001 (zaS (hp 1001 rfl)) ?_
  refine uRn 16 1000 (zaS (hp 1000 rfl)) ?_
  repeat' (first | refine zac ?_ | refine zaa ?_ | ((first | refine zab ?_ | refine zae ?_); (first | change W _ _ _ _ _ | change EndN _ _ _ _ _ _ )) | (refine isRL ?_; first | refine uNx hC (fun e2 _ => ?_) | refine uMv ?_ | refine uAs ?_ | (refine isBd ?_; first | refine uBd ?_ ) ))
  exact zaw (by rfl) rfl ghasA ⟨(), rfl, rfl, trivial⟩
theorem zk1 {l : List Int} {k : Nat} (b : Int) (hk : k < l.length) : (l.map encI).take (0 + k) ++ [[.v (.int .i64 b)]] ++ (l.map encI).drop (0 + k + 1) = (l.set k b).map encI := by
  rw [Nat.zero_add, List.map_set, List.set_eq_take_append_cons_drop, if_pos (by rw [List.length_map]; exact hk), List.append_assoc]; rfl
def Rn.nx (R : Rn) (n c : Nat) (d : Int) : Nat := if c ≤ R.L then R.runs n d c else 0
theorem zeX (n : Nat) : List.replicate n [D.v (.int .i64 0)] = (rowF (fun _ => 0) n).map encI := by
  unfold rowF
  rw [List.map_map, show (encI ∘ fun i : Nat => (((fun _ : Int => (0 : Nat)) (i : Int) : Nat) : Int)) = fun _ => [D.v (.int .i64 0)] from rfl, List.map_const']
  simp
theorem zlq {m : Mach} {n : Nat} {g : Gr} {fit : List (List Bool)} {ns es : List Int} {rk : Int → Nat} (hok : RunOk m n g fit ns es) (h2 : 2 ≤ n) (hR : (rnOf m fit g ns es).Ok rk n) :
    CallsN Tryz.prog 20 [.dat (encA m), .dat (encG g), vL (fit.map encR), .dat [.sl (ns.map encI), .sl (es.map encI)]] [] (fun y σ1 => ∃ _ : Unit, y = vI (((rnOf m fit g ns es).runs n 0 0 : Nat) : Int) ∧ σ1 = [] ∧ True) := by
  obtain ⟨hM, hP, hfew, hfn, hfe⟩ := hok
  have hML : (rnOf m fit g ns es).L = es.length := rfl
  have hMv : (rnOf m fit g ns es).mv = m.moves := rfl
  obtain ⟨hst, hsm, hml, hL, hel⟩ := hM
  have hln : (ns.map encI).length = ns.length := List.length_map _
  have hle : (es.map encI).length = es.length := List.length_map _
  have hlm : (m.moves.map encMv).length = m.moves.length := List.length_map _
  have hPl := hP.len
  have hS := fun (v : Mv) (hv : v ∈ m.moves) (x : Int) (hx : x ∈ ns) => zkI m fit v x (hfn x hx) (hel v hv)
  have hA := fun e x y => zkV g e x y
  unfold encA at hS ⊢
  unfold encG at hA ⊢
  rw [hst] at hS ⊢
  generalize hRn : rnOf m fit g ns es = R at hR hML hMv ⊢
  (refine zam (Ty := Ty) zag Tryz.func20 rfl rfl rfl (by rfl) fun w0 S0 hp => ?_; simp only [argsF, List.zipIdx_cons, List.zipIdx_nil, List.map_cons, List.map_nil, Nat.zero_add])
  have h11 : ((es.length + 1 : Nat) : Int) - 1 = ((ns.map encI).length : Int) - 1 := by omega
  have hx0 : R.nx n (es.length + 1) = fun _ => 0 := funext fun d => by unfold Rn.nx; rw [if_neg (by omega)]
  repeat' (first | refine zac ?_ | refine zaa ?_ | ((first | refine zab ?_ ); (first | change W _ _ _ _ _ )) | (refine isRL ?_; first | refine uMk n ?_ | refine uMv ?_ | refine uAs ?_ | (refine isBin ?_; first | refine uIb ?_ ) | (refine isLd ?_; first | refine uL1 ?_ ) | (refine isCl ?_; first | refine uP ?_) | (refine isFa ?_; first | refine uP ?_) | refine uBx ?_ ) | refine zad ?_ )
  rw [zeX]
  refine wRn 23 1004 (zaS (hp 1004 rfl)) ?_
  refine zaL (α := Nat) (fun c => [(2, vL (fit.map encR)), (4, .one (.po 4 0)), (5, .one (.po 5 0)), (7, .one (.po 7 0)), (8, vI 0), (9, vI ((ns.map encI).length : Int)), (10, .one (.win 1004 0 n n 1)), (11, vI ((c : Int) - 1))])
    (fun c => [(4, .box 49 [.sl (m.elems.map encP), .sl (m.moves.map encMv), .v (.int .i64 (n : Int))]), (5, .box 25 [.sl (g.nodes.map encNd), .sl (g.edges.map encEd)]), (7, .box 60 [.sl (ns.map encI), .sl (es.map encI)]), (1004, .arr 3 1 ((rowF (R.nx n c) n).map encI))])
    (fun c => c ≤ es.length + 1) (fun c => c) (es.length + 1) (Nat.le_refl _) (by simp only [h11]; exact subA) (by simp only [hx0]; exact subA) ?_
  intro c hc
  by_cases hc0 : c = 0
  · subst hc0
    have hb0 : ((rowF (R.nx n 0) n).map encI)[0 + (0 : Int).toNat]? = some [.v (.int .i64 ((R.runs n 0 0 : Nat) : Int))] := by
      rw [List.getElem?_map]
      show Option.map encI (rowF (R.nx n 0) n)[0]? = _
      rw [zcn (by omega)]
      unfold Rn.nx
      rw [if_pos (Nat.zero_le _)]; rfl
    repeat' (first | refine zac ?_ | refine zaa ?_ | ((first | refine zab ?_ | refine zaD ?_ | refine zae ?_ ); (first | change W _ _ _ _ _ | change EndN _ _ _ _ _ _ )) | (refine isRL ?_; first | refine uWix ?_ | refine uPelv _ ?_ hb0 | refine uMv ?_ | refine uAs ?_ | (refine isBin ?_; first | refine uBb false ?_ ) ) | refine wF fun _ => ?_ )
    exact zaw (by rfl) rfl ghasA ⟨(), rfl, rfl, trivial⟩
  obtain ⟨c', rfl⟩ : ∃ c', c = c' + 1 := ⟨c - 1, by omega⟩
  rw [show ((c' + 1 : Nat) : Int) - 1 = (c' : Int) by omega]
  obtain ⟨x, hx⟩ : ∃ x, ns[c']? = some x := ⟨_, List.getElem?_eq_getElem (by omega)⟩
  have hSx := fun (v : Mv) (hv : v ∈ m.moves) => hS v hv x (List.mem_of_getElem? hx)
  repeat' (first | refine zac ?_ | refine zaa ?_ | ((first | refine zab ?_ | refine zaf ?_ ); (first | change W _ _ _ _ _ )) | (refine isRL ?_; first | refine uMk n ?_ | refine uMv ?_ | refine uAs ?_ | (refine isBin ?_; first | refine uBb true ?_ ) | (refine isLd ?_; first | refine uL1 ?_ ) | (refine isFa ?_; first | refine uP ?_) ) | refine zad ?_ | refine wT fun _ => ?_ )
  rw [zeX]
  refine wRn 32 1003 (zaS (hp 1003 rfl)) ?_
  refine zaL (α := Nat) (fun k => [(2, vL (fit.map encR)), (4, .one (.po 4 0)), (5, .one (.po 5 0)), (7, .one (.po 7 0)), (8, vI 0), (9, vI ((ns.map encI).length : Int)), (10, .one (.win 1004 0 n n 1)), (11, vI (c' : Int)), (12, .one (.win 1003 0 n n 1)), (13, vI k)])
    (fun k => [(4, .box 49 [.sl (m.elems.map encP), .sl (m.moves.map encMv), .v (.int .i64 (n : Int))]), (5, .box 25 [.sl (g.nodes.map encNd), .sl (g.edges.map encEd)]), (7, .box 60 [.sl (ns.map encI), .sl (es.map encI)]), (1004, .arr 3 1 ((rowF (R.nx n (c' + 1)) n).map encI)), (1003, .arr 3 1 ((rowF (R.round (R.nx n (c' + 1)) c' k) n).map encI))])
    (fun k => k ≤ n + 1) (fun k => n + 1 - k) 0 (Nat.zero_le _) subA subA ?_
  intro k hk
  by_cases hkn : k ≤ n
  · obtain ⟨N, hN⟩ : ∃ N, R.nx n (c' + 1) = N := ⟨_, rfl⟩
    obtain ⟨B, hB⟩ : ∃ B, R.round N c' k = B := ⟨_, rfl⟩
    rw [hN, hB]
    have hNl : ∀ d, N d ≤ 1001 := fun d => by
      rw [← hN]; unfold Rn.nx; split
      · exact R.runs_le n d _
      · omega
    have hBl : ∀ d, B d ≤ 1001 := fun d => by
      rw [← hB]
      cases k with
      | zero => exact Nat.zero_le _
      | succ k => exact zgT _
    have hbase : ∀ s, R.acc B N c' (m.moves.take 0) s = R.base s c' := fun s => by rw [List.take_zero]; exact R.acc_nil B N c' s
    iterate 19 (first | refine zac ?_ | refine zaa ?_ | ((first | refine zab ?_ | refine zaf ?_ ); (first | change W _ _ _ _ _ )) | (refine isRL ?_; first | refine uMk n ?_ | refine uMv ?_ | refine uAs ?_ | (refine isBin ?_; first | refine uBb true ?_ ) | (refine isLd ?_; first | refine uL1 ?_ ) | (refine isFa ?_; first | refine uP ?_) ) | refine zad ?_ | refine wT fun _ => ?_ )
    rw [zeX]
    refine zkY 11 [(2, vL (fit.map encR)), (4, .one (.po 4 0)), (5, .one (.po 5 0)), (7, .one (.po 7 0)), (8, vI 0), (9, vI ((ns.map encI).length : Int)), (10, .one (.win 1004 0 n n 1)), (11, vI (c' : Int)), (12, .one (.win 1003 0 n n 1)), (13, vI k), (14, .one (.win 41 0 n n 1))]
      [(4, .box 49 [.sl (m.elems.map encP), .sl (m.moves.map encMv), .v (.int .i64 (n : Int))]), (5, .box 25 [.sl (g.nodes.map encNd), .sl (g.edges.map encEd)]), (7, .box 60 [.sl (ns.map encI), .sl (es.map encI)]), (1004, .arr 3 1 ((rowF N n).map encI)), (1003, .arr 3 1 ((rowF B n).map encI)), (41, .arr 3 1 ((rowF (R.acc B N c' (m.moves.take 0)) n).map encI))] ?_ ?_
    · by_cases hcL : c' = es.length
      · have hu := zk1 (l := rowF (fun _ => 0) n) (k := (1 : Int).toNat) 1 (by rw [zbP]; exact h2)
        have hr : (rowF (fun _ => 0) n).set (1 : Int).toNat 1 = rowF (R.acc B N c' (m.moves.take 0)) n := by
          have := zgH (f := fun _ => 0) (n := n) (i := 1) (by omega) 1
          refine Eq.trans this (zcQ fun s _ _ => ?_)
          rw [hbase]; unfold Rn.base
          by_cases hs : s = 1
          · rw [if_pos (by omega), if_pos ⟨hs, by omega⟩]
          · rw [if_neg (by omega), if_neg (fun h => hs h.1)]
        rw [hr] at hu
        repeat' (first | refine zac ?_ | refine zaa ?_ | ((first | refine zab ?_ ); (first | change W _ _ _ _ _ | skip)) | (refine isRL ?_; first | refine uWix ?_ | refine uPev _ ?_ (hrows := hu) (hm := by rw [List.length_map, zbP]; exact h2) | refine uMv ?_ | (refine isBin ?_; first | refine uIb ?_ | refine uBb true ?_ ) ) | refine wT fun _ => ?_ )
        exact ⟨subA, subA⟩
      · have hr : rowF (fun _ => 0) n = rowF (R.acc B N c' (m.moves.take 0)) n := zcQ fun s _ _ => by
          rw [hbase]; unfold Rn.base
          rw [if_neg (fun h => hcL (by omega))]
        rw [hr]
        repeat' (first | refine zac ?_ | refine zaa ?_ | ((first | refine zab ?_ | refine zaf ?_ ); (first | change W _ _ _ _ _ | skip)) | (refine isRL ?_; first | refine uMv ?_ | (refine isBin ?_; first | refine uIb ?_ | refine uBb false ?_ ) ) | refine wF fun _ => ?_ )
        exact ⟨subA, subA⟩
    repeat' (first | refine zac ?_ | refine zaa ?_ | ((first | refine zab ?_ ); (first | change W _ _ _ _ _ )) | (refine isRL ?_; first | refine uAs ?_ ) | refine zad ?_ )
    refine zaL (α := Nat) (fun j => [(2, vL (fit.map encR)), (4, .one (.po 4 0)), (5, .one (.po 5 0)), (7, .one (.po 7 0)), (8, vI 0), (9, vI ((ns.map encI).length : Int)), (10, .one (.win 1004 0 n n 1)), (11, vI (c' : Int)), (12, .one (.win 1003 0 n n 1)), (13, vI k), (14, .one (.win 41 0 n n 1)), (15, vI j)])
      (fun j => [(4, .box 49 [.sl (m.elems.map encP), .sl (m.moves.map encMv), .v (.int .i64 (n : Int))]), (5, .box 25 [.sl (g.nodes.map encNd), .sl (g.edges.map encEd)]), (7, .box 60 [.sl (ns.map encI), .sl (es.map encI)]), (1004, .arr 3 1 ((rowF N n).map encI)), (1003, .arr 3 1 ((rowF B n).map encI)), (41, .arr 3 1 ((rowF (R.acc B N c' (m.moves.take j)) n).map encI))])
      (fun j => j ≤ m.moves.length) (fun j => m.moves.length - j) 0 (Nat.zero_le _) subA subA ?_
    intro j hj
    by_cases hlt : j < m.moves.length
    · obtain ⟨v, hv⟩ : ∃ v, m.moves[j]? = some v := ⟨_, List.getElem?_eq_getElem hlt⟩
      have hvm := List.mem_of_getElem? hv
      have hSv := hSx v hvm
      obtain ⟨b1, b2, b3, b4⟩ := hL v hvm
      have hev := hel v hvm
      have hz := fun h => R.acc_zero B N c' hv h
      have hst0 : R.st c' v = staysB m fit x v := by
        rw [← hRn]
        show staysB m fit (ns[c']?.getD 0) v = _
        rw [hx]; rfl
      have hcs : ((v.src.toNat : Nat) : Int) = v.src := Int.toNat_of_nonneg b1
      have hcd : ((v.dst.toNat : Nat) : Int) = v.dst := Int.toNat_of_nonneg b3
      have hsum : ((rowF (R.acc B N c' (m.moves.take j)) n).map encI)[0 + v.src.toNat]? = some [.v (.int .i64 ((R.acc B N c' (m.moves.take j) v.src : Nat) : Int))] := by
        rw [Nat.zero_add, List.getElem?_map, zcn (by omega), hcs]; rfl
      have hnow : ((rowF B n).map encI)[0 + v.dst.toNat]? = some [.v (.int .i64 ((B v.dst : Nat) : Int))] := by
        rw [Nat.zero_add, List.getElem?_map, zcn (by omega), hcd]; rfl
      have hnext : ((rowF N n).map encI)[0 + v.dst.toNat]? = some [.v (.int .i64 ((N v.dst : Nat) : Int))] := by
        rw [Nat.zero_add, List.getElem?_map, zcn (by omega), hcd]; rfl
      have hle := hBl v.dst
      have hle2 := hNl v.dst
      have hle3 : R.acc B N c' (m.moves.take j) v.src ≤ 1001 := zgT _
      have hmn : ∀ q : Nat, (if (1001 : Int) < ((R.acc B N c' (m.moves.take j) v.src : Nat) : Int) + (q : Int) then (1001 : Int) else ((R.acc B N c' (m.moves.take j) v.src : Nat) : Int) + (q : Int)) = ((capN (R.acc B N c' (m.moves.take j) v.src + q) : Nat) : Int) := fun q => by unfold capN; split <;> omega
      have hup : ∀ q : Nat, R.part B N c' v = q → ((rowF (R.acc B N c' (m.moves.take j)) n).map encI).take (0 + v.src.toNat) ++ [[.v (.int .i64 ((capN (R.acc B N c' (m.moves.take j) v.src + q) : Nat) : Int))]] ++ ((rowF (R.acc B N c' (m.moves.take j)) n).map encI).drop (0 + v.src.toNat + 1) = (rowF (R.acc B N c' (m.moves.take (j + 1))) n).map encI := fun q hq => by
        rw [zk1 _ (by rw [zbP]; omega), zgH (by omega), hcs]
        congr 1
        refine zcQ fun s _ _ => ?_
        rw [R.acc_next B N c' hv, hq]
        by_cases hs : s = v.src
        · rw [if_pos hs, if_pos hs, hs]
        · rw [if_neg hs, if_neg hs]
      unfold encMv at hSv
      cases hsb : staysB m fit x v with
      | true =>
        rw [hsb] at hSv
        have hpt : R.part B N c' v = B v.dst := by unfold Rn.part; rw [hst0, hsb, if_pos rfl]
        have hu := hup _ hpt
        have hm1 := hmn (B v.dst)
        repeat' (first | refine zac ?_ | refine zaa ?_ | ((first | refine zab ?_ | refine zaf ?_ | refine mN ?_); (first | change W _ _ _ _ _ | change Exists _ | skip)) | (refine isRL ?_; first | refine uPev _ ?_ (hrows := hu) (hm := by rw [List.length_map, zbP]; omega) | refine uMv ?_ | refine uAs ?_ | (refine isBin ?_; first | refine uIb ?_ | refine uBb true ?_ ) | (refine isLd ?_; first | refine uLp ?_ | refine uL1 ?_ ) | (refine isCl ?_; first | refine uP ?_) | (refine isFa ?_; first | refine uP ?_) | (refine isSt ?_; first | refine uSw ?_ ) | refine uX ?_ | refine uN ?_ ) | refine zad ?_ | refine wT fun _ => ?_ | refine uAnyL ?_ | refine uAny ?_ | (refine isD ?_; first | refine mWix ?_ | refine mPelv _ ?_ hsum | refine mPelv _ ?_ hnow | refine mMinY hm1 ?_ | refine mMv ?_ | refine mAs ?_ | (refine imBin ?_; first | refine mIb ?_ ) | (refine imLd ?_; first | refine mLb ?_ | refine mL1 ?_ | refine mL2 ?_ ) | (refine imCl ?_; first | refine mC (hSv) ?_ ) | (refine imFa ?_; first | refine mP ?_) | refine mX ?_ ) )
        exact ⟨j + 1, by omega, by omega, subA, subA⟩
      | false =>
        rw [hsb] at hSv
        have hpt : R.part B N c' v = if c' < es.length ∧ R.go c' v = true then N v.dst else 0 := by unfold Rn.part; rw [hst0, hsb, if_neg (by decide), hML]
        by_cases hlti : c' < es.length
        rotate_left
        · have hz0 := hz (by rw [hpt, if_neg (fun h => hlti h.1)])
          repeat' (first | refine zac ?_ | refine zaa ?_ | ((first | refine zab ?_ | refine zaf ?_ | refine mN ?_); (first | change W _ _ _ _ _ | change Exists _ )) | (refine isRL ?_; first | refine uMv ?_ | refine uAs ?_ | (refine isBin ?_; first | refine uIb ?_ | refine uBb true ?_ ) | (refine isLd ?_; first | refine uLp ?_ | refine uL1 ?_ ) | (refine isCl ?_; first | refine uP ?_) | (refine isFa ?_; first | refine uP ?_) | (refine isSt ?_; first | refine uSw ?_ ) | refine uX ?_ | refine uN ?_ ) | refine zad ?_ | refine wT fun _ => ?_ | refine wF fun _ => ?_ | refine uAny ?_ | (refine isD ?_; first | refine mMv ?_ | refine mAs ?_ | refine mO ?_ | (refine imBin ?_; first | refine mIb ?_ | refine mBb false ?_ ) | (refine imLd ?_; first | refine mLb ?_ | refine mL1 ?_ | refine mL2 ?_ ) | (refine imCl ?_; first | refine mC (hSv) ?_ ) | (refine imFa ?_; first | refine mP ?_) | refine mX ?_ | refine mP ?_ ) )
          exact ⟨j + 1, by omega, by omega, subA, (by simp only [hz0]; exact subA)⟩
        obtain ⟨ed, hed⟩ : ∃ ed, es[c']? = some ed := ⟨_, List.getElem?_eq_getElem hlti⟩
        obtain ⟨y, hy⟩ : ∃ y, ns[c' + 1]? = some y := ⟨_, List.getElem?_eq_getElem (by omega)⟩
        have hyi : (ns.map encI)[((c' : Int) + 1).toNat]? = some (encI y) := by rw [show ((c' : Int) + 1).toNat = c' + 1 by omega, List.getElem?_map, hy]; rfl
        have hgo0 : R.go c' v = goesB m fit ed (alongF g ed x y) v := by
          rw [← hRn]
          show goesB m fit (es[c']?.getD 0) (alongF g (es[c']?.getD 0) (ns[c']?.getD 0) (ns[c' + 1]?.getD 0)) v = _
          rw [hx, hy, hed]; rfl
        have hAl := hA ed x y
        have hf := hfe ed (List.mem_of_getElem? hed)
        have h0 := hf.pos
        generalize alongF g ed x y = along at hAl hgo0
        have hno : goesB m fit ed along v = false → R.acc B N c' (m.moves.take (j + 1)) = R.acc B N c' (m.moves.take j) := fun h => hz (by rw [hpt, hgo0, h, if_neg (fun h => by cases h.2)])
        by_cases h1 : v.elem = -1
        · have hz0 := hno (by unfold goesB; rw [h1]; rfl)
          repeat' (first | refine zac ?_ | refine zaa ?_ | ((first | refine zab ?_ | refine zaf ?_ | refine mN ?_); (first | change W _ _ _ _ _ | change Exists _ )) | (refine isRL ?_; first | refine uMv ?_ | refine uAs ?_ | (refine isBin ?_; first | refine uIb ?_ | refine uBb true ?_ ) | (refine isLd ?_; first | refine uLp ?_ | refine uL1 ?_ ) | (refine isCl ?_; first | refine uP ?_) | (refine isFa ?_; first | refine uP ?_) | (refine isSt ?_; first | refine uSw ?_ ) | refine uX ?_ | refine uN ?_ ) | refine zad ?_ | refine wT fun _ => ?_ | refine wF fun _ => ?_ | refine uAny ?_ | (refine isD ?_; first | refine mMv ?_ | refine mAs ?_ | refine mO ?_ | (refine imBin ?_; first | refine mIb ?_ | refine mBb true ?_ | refine mBb false ?_ ) | (refine imLd ?_; first | refine mLb ?_ | refine mL1 ?_ | refine mL2 ?_ ) | (refine imCl ?_; first | refine mC (hSv) ?_ ) | (refine imFa ?_; first | refine mP ?_) | refine mX ?_ | refine mP ?_ ) )
          exact ⟨j + 1, by omega, by omega, subA, (by simp only [hz0]; exact subA)⟩
        obtain ⟨p, q1, q5⟩ := hev.get h1
        have e1 : goesB m fit ed along v = (p.kind == 2 && fitAt fit v.elem ed && ((IntKind.i64.wrap ((BitVec.ofInt IntKind.i64.bits p.dir &&& BitVec.ofInt IntKind.i64.bits along).toNat : Nat)) != 0)) := by
          unfold goesB
          rw [q1, show (v.elem != -1) = true by simpa using h1]; rfl
        by_cases hk2 : p.kind = 2
        rotate_left
        · have hz0 := hno (by rw [e1, show (p.kind == 2) = false by simpa using hk2]; rfl)
          repeat' (first | refine zac ?_ | refine zaa ?_ | ((first | refine zab ?_ | refine zaf ?_ | refine mN ?_); (first | change W _ _ _ _ _ | change Exists _ )) | (refine isRL ?_; first | refine uMv ?_ | refine uAs ?_ | (refine isBin ?_; first | refine uIb ?_ | refine uBb true ?_ ) | (refine isLd ?_; first | refine uLp ?_ | refine uL1 ?_ ) | (refine isCl ?_; first | refine uP ?_) | (refine isFa ?_; first | refine uP ?_) | (refine isSt ?_; first | refine uSw ?_ ) | refine uX ?_ | refine uN ?_ ) | refine zad ?_ | refine wT fun _ => ?_ | refine wF fun _ => ?_ | refine uAny ?_ | (refine isD ?_; first | refine mMv ?_ | refine mAs ?_ | refine mO ?_ | (refine imBin ?_; first | refine mIb ?_ | refine mBb true ?_ | refine mBb false ?_ ) | (refine imLd ?_; first | refine mLb ?_ | refine mL1 ?_ | refine mL2 ?_ ) | (refine imCl ?_; first | refine mC (hSv) ?_ ) | (refine imFa ?_; first | refine mP ?_) | refine mX ?_ | refine mP ?_ ) )
          exact ⟨j + 1, by omega, by omega, subA, (by simp only [hz0]; exact subA)⟩
        obtain ⟨r, b, q2, q3, q4⟩ := hf.get q1 hk2
        rw [q4, show (p.kind == 2) = true by simpa using hk2] at e1
        cases b with
        | false =>
          have hz0 := hno (by rw [e1]; rfl)
          repeat' (first | refine zac ?_ | refine zaa ?_ | ((first | refine zab ?_ | refine zaf ?_ | refine mN ?_); (first | change W _ _ _ _ _ | change Exists _ )) | (refine isRL ?_; first | refine uMv ?_ | refine uAs ?_ | (refine isBin ?_; first | refine uIb ?_ | refine uBb true ?_ ) | (refine isLd ?_; first | refine uLp ?_ | refine uL1 ?_ ) | (refine isCl ?_; first | refine uP ?_) | (refine isFa ?_; first | refine uP ?_) | (refine isSt ?_; first | refine uSw ?_ ) | refine uX ?_ | refine uN ?_ ) | refine zad ?_ | refine wT fun _ => ?_ | refine wF fun _ => ?_ | refine uAny ?_ | (refine isD ?_; first | refine mMv ?_ | refine mAs ?_ | refine mO ?_ | (refine imBin ?_; first | refine mIb ?_ | refine mBb true ?_ ) | (refine imLd ?_; first | refine mLb ?_ | refine mL1 ?_ | refine mL2 ?_ ) | (refine imCl ?_; first | refine mC (hSv) ?_ ) | (refine imFa ?_; first | refine mP ?_) | refine mX ?_ | refine mP ?_ ) )
          exact ⟨j + 1, by omega, by omega, subA, (by simp only [hz0]; exact subA)⟩
        | true =>
          have hcm : (IntKind.i64.wrap ((BitVec.ofInt IntKind.i64.bits along &&& BitVec.ofInt IntKind.i64.bits p.dir).toNat : Nat)) = (IntKind.i64.wrap ((BitVec.ofInt IntKind.i64.bits p.dir &&& BitVec.ofInt IntKind.i64.bits along).toNat : Nat)) := by rw [BitVec.and_comm]
          by_cases hd : (IntKind.i64.wrap ((BitVec.ofInt IntKind.i64.bits p.dir &&& BitVec.ofInt IntKind.i64.bits along).toNat : Nat)) = 0
          · have hz0 := hno (by rw [e1, hd]; rfl)
            have hdn : ((IntKind.i64.wrap ((BitVec.ofInt IntKind.i64.bits along &&& BitVec.ofInt IntKind.i64.bits p.dir).toNat : Nat)) != 0) = false := by rw [hcm, hd]; rfl
            repeat' (first | refine zac ?_ | refine zaa ?_ | ((first | refine zab ?_ | refine zaf ?_ | refine mN ?_); (first | change W _ _ _ _ _ | change Exists _ )) | (refine isRL ?_; first | refine uMv ?_ | refine uAs ?_ | (refine isBin ?_; first | refine uIb ?_ | refine uBb true ?_ ) | (refine isLd ?_; first | refine uLp ?_ | refine uL1 ?_ ) | (refine isCl ?_; first | refine uP ?_) | (refine isFa ?_; first | refine uP ?_) | (refine isSt ?_; first | refine uSw ?_ ) | refine uX ?_ | refine uN ?_ ) | refine zad ?_ | refine wT fun _ => ?_ | refine wF fun _ => ?_ | refine uAny ?_ | (refine isD ?_; first | refine mMv ?_ | refine mAs ?_ | (refine imBin ?_; first | refine mIb ?_ | refine mBb true ?_ | refine mBb false ?_ | refine mP ?_) | (refine imLd ?_; first | refine mLb ?_ | refine mL1 ?_ | refine mL2 ?_ ) | (refine imCl ?_; first | refine mC (hSv) ?_ | refine mC (hAl) ?_ ) | (refine imFa ?_; first | refine mP ?_) | refine mX ?_ | refine mP ?_ ) )
            exact ⟨j + 1, by omega, by omega, subA, (by simp only [hz0]; exact subA)⟩
          · have hdn : ((IntKind.i64.wrap ((BitVec.ofInt IntKind.i64.bits along &&& BitVec.ofInt IntKind.i64.bits p.dir).toNat : Nat)) != 0) = true := by rw [hcm]; simpa using hd
            have hpt2 : R.part B N c' v = N v.dst := by
              rw [hpt, hgo0, e1, if_pos ⟨hlti, by rw [← hcm, hdn]; rfl⟩]
            have hu := hup _ hpt2
            have hm1 := hmn (N v.dst)
            repeat' (first | refine zac ?_ | refine zaa ?_ | ((first | refine zab ?_ | refine zaf ?_ | refine mN ?_); (first | change W _ _ _ _ _ | change Exists _ | skip)) | (refine isRL ?_; first | refine uPev _ ?_ (hrows := hu) (hm := by rw [List.length_map, zbP]; omega) | refine uMv ?_ | refine uAs ?_ | (refine isBin ?_; first | refine uIb ?_ | refine uBb true ?_ ) | (refine isLd ?_; first | refine uLp ?_ | refine uL1 ?_ ) | (refine isCl ?_; first | refine uP ?_) | (refine isFa ?_; first | refine uP ?_) | (refine isSt ?_; first | refine uSw ?_ ) | refine uX ?_ | refine uN ?_ ) | refine zad ?_ | refine wT fun _ => ?_ | refine wF fun _ => ?_ | refine uAnyL ?_ | refine uAny ?_ | (refine isD ?_; first | refine mWix ?_ | refine mPelv _ ?_ hsum | refine mPelv _ ?_ hnext | refine mMinY hm1 ?_ | refine mMv ?_ | refine mAs ?_ | (refine imBin ?_; first | refine mIb ?_ | refine mBb true ?_ | refine mP ?_) | (refine imLd ?_; first | refine mLb ?_ | refine mL1 ?_ | refine mL2 ?_ ) | (refine imCl ?_; first | refine mC (hSv) ?_ | refine mC (hAl) ?_ ) | (refine imFa ?_; first | refine mP ?_) | refine mX ?_ | refine mP ?_ ) )
            exact ⟨j + 1, by omega, by omega, subA, subA⟩
    · obtain rfl : j = m.moves.length := by omega
      have hfin : R.acc B N c' m.moves = R.round N c' (k + 1) := by rw [R.round_acc, hB, hMv]
      rw [List.take_length, hfin]
      iterate 14 (first | refine zac ?_ | refine zaa ?_ | ((first | refine zab ?_ | refine zaD ?_ ); (first | change W _ _ _ _ _ )) | (refine isRL ?_; first | refine uMv ?_ | refine uAs ?_ | (refine isBin ?_; first | refine uBb false ?_ ) | (refine isLd ?_; first | refine uL1 ?_ ) | (refine isCl ?_; first | refine uP ?_) | (refine isFa ?_; first | refine uP ?_) ) | refine wF fun _ => ?_ )
      refine uRn 41 1003 (zaS (hp 1003 rfl)) ?_
      repeat' (first | refine zaa ?_ | ((first | refine zab ?_ ); (first | change W _ _ _ _ _ | change Exists _ )) | (refine isRL ?_; first | refine uMv ?_ | refine uAs ?_ | (refine isBin ?_; first | refine uIb ?_ ) ) )
      exact ⟨k + 1, by omega, by omega, subA, subA⟩
  · obtain rfl : k = n + 1 := by omega
    have hfin : rowF (R.round (R.nx n (c' + 1)) c' (n + 1)) n = rowF (R.nx n c') n := zcQ fun s h0 h1 => by
      rw [hR.round_all (fun hlt d _ _ => by unfold Rn.nx; rw [if_pos (by omega)]) h0 h1]
      unfold Rn.nx; rw [if_pos (by omega)]
    rw [hfin]
    iterate 13 (first | refine zac ?_ | refine zaa ?_ | ((first | refine zab ?_ | refine zaD ?_ ); (first | change W _ _ _ _ _ )) | (refine isRL ?_; first | refine uMv ?_ | refine uAs ?_ | (refine isBin ?_; first | refine uBb false ?_ ) | (refine isLd ?_; first | refine uL1 ?_ ) | (refine isFa ?_; first | refine uP ?_) ) | refine wF fun _ => ?_ )
    refine uRn 1003 1004 (zaS (hp 1004 rfl)) ?_
    repeat' (first | refine zaa ?_ | ((first | refine zab ?_ ); (first | change W _ _ _ _ _ | change Exists _ )) | (refine isRL ?_; first | refine uMv ?_ | refine uAs ?_ | (refine isBin ?_; first | refine uIb ?_ ) ) )
    exact ⟨c', by omega, by omega, subA, subA⟩
end Go.Proofs.YtjhkehloipmjfaaGreat
