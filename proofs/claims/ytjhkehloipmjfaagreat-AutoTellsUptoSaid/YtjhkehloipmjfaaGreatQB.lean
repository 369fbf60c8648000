/- Walks: a pattern is laid into a machine. -/
import Derived.Test.YtjhkehloipmjfaaGreatWO
set_option maxRecDepth 100000
set_option maxHeartbeats 4000000
namespace Go.Proofs.YtjhkehloipmjfaaGreat
open Go.RowKit
theorem zm2 : ∀ (p : Pt) (s t : Int) (m : Mach), shapeP p = true → fits (nodesP p) m → CallsM Tryz.prog 33 [.one (.po 1000 0), .dat (encP p), vI s, vI t] (autoS m) (.tup []) (autoS (layM p s t m)) := Pt.ind fun p ih s t m hs hb => by
  have hsk := zbv hs
  have hnp := zbf p
  have hlm : (p.kids.map encP).length = p.kids.length := List.length_map _
  rcases zbC hs with ⟨hk, hk0⟩ | ⟨hk, hne⟩ | ⟨hk, ⟨k, hkk⟩, hm⟩
  · rw [zb9 hk]
    have hlE : (m.elems.map encP).length = m.elems.length := List.length_map _
    have hM := zfw m s t ((m.elems.map encP).length : Int) (by have := hb.2.1; omega)
    rw [← hlE]
    have hz := za4 m.elems
    obtain ⟨h1, h2, h3, h4⟩ := hb
    have hnx : m.elems.map encP ++ [encP p] = (m.elems ++ [p]).map encP := by rw [List.map_append]; rfl
    simp only [autoS, mvM, elM] at hM ⊢
    rcases hk with hk | hk
    all_goals
      (refine zaR (Ty := Ty) zag Tryz.func33 rfl rfl rfl (by rfl) fun w0 S0 hp => ?_; simp only [argsF, List.zipIdx_cons, List.zipIdx_nil, List.map_cons, List.map_nil, Nat.zero_add])
      repeat' (first | refine zac ?_ | refine zaa ?_ | ((first | refine zab ?_ | refine zaf ?_ ); (first | change W _ _ _ _ _ )) | (refine isRL ?_; first | refine uMv ?_ | refine uAs ?_ | (refine isBin ?_; first | refine uBb true ?_ | refine uBb false ?_ ) | (refine isLd ?_; first | refine uL1 ?_ | refine uP ?_) | (refine isCl ?_; first | refine uM (hM) ?_ | refine uP ?_ ) | (refine isFa ?_; first | refine uP ?_) | refine uNp ?_ | refine uBx ?_ ) | refine zad ?_ | refine wT fun _ => ?_ | refine wF fun _ => ?_ )
      refine uBig ?_
      repeat' (first | (refine isD ?_; first | refine mMv ?_ | (refine imLd ?_; first | refine mLb ?_ | refine mP ?_) | (refine imCl ?_; first | refine mP ?_ ) | (refine imFa ?_; first | refine mP ?_) | refine mNp ?_ ) )
      refine mBs (rows := [zPat]) ?_ (hr := by exact zjO _)
      repeat' (first | (refine mN ?_; (first | skip)))
      change TailOk _ _ _ _ _ _
      refine uTail ?_
      refine uRn 36 1001 (zaS (hp 1001 rfl)) ?_
      repeat' (first | ((first | refine zab ?_ ); (first | skip)) )
      exact zcl (by rfl) rfl ghasA
  · have hlen : 0 < p.kids.length := List.length_pos_iff.2 hne
    have hkn : p.kids.length ≤ 20000 := by have := zbH nodesP p.kids (fun x _ => zcf x); have := hb.1; omega
    have hzk : sized 20 (p.kids.map encP) = true := za4 p.kids
    by_cases h3 : p.kind = 3
    · have n1 : (p.kind == 1) = false := by simp [h3]
      have n2 : (p.kind == 2) = false := by simp [h3]
      have n3 : (p.kind == 3) = true := by simp [h3]
      have hX : (((p.kids.map encP).length : Int) - 1).toNat = p.kids.length - 1 := by omega
      obtain ⟨kl, hkl⟩ : ∃ k, p.kids[p.kids.length - 1]? = some k := ⟨_, List.getElem?_eq_getElem (by omega)⟩
      rw [zc1 h3 hkl]
      rw [← hX] at hkl ⊢
      have hb1 := hb
      obtain ⟨h1, h2, h4, h5⟩ := hb
      generalize hXX : (((p.kids.map encP).length : Int) - 1).toNat = X at hkl hX ⊢
      have hlt : ((p.kids.take X).map encP).length = X := by rw [List.length_map, List.length_take]; omega
      have hE := ih kl (List.mem_of_getElem? hkl) ((p.kids.take X).foldl upP (s, m)).1 t ((p.kids.take X).foldl upP (s, m)).2 (hsk kl (List.mem_of_getElem? hkl)) (zbK (zdo (t := t) hs hkl hb1).1 (by omega))
      subst hXX
      simp only [autoS] at hE ⊢
      (refine zaR (Ty := Ty) zag Tryz.func33 rfl rfl rfl (by rfl) fun w0 S0 hp => ?_; simp only [argsF, List.zipIdx_cons, List.zipIdx_nil, List.map_cons, List.map_nil, Nat.zero_add])
      repeat' (first | refine zac ?_ | refine zaa ?_ | ((first | refine zab ?_ ); (first | change W _ _ _ _ _ )) | (refine isRL ?_; first | refine uMv ?_ | refine uAs ?_ | (refine isBin ?_; first | refine uIb ?_ | refine uBb true ?_ | refine uBb false ?_ ) | (refine isLd ?_; first | refine uL1 ?_ ) | (refine isCl ?_; first | refine uP ?_ ) | (refine isFa ?_; first | refine uP ?_) | (refine isSl ?_; first | refine uHm ?_ ) | refine uBx ?_ ) | refine zad ?_ | refine wT fun _ => ?_ | refine wF fun _ => ?_ )
      refine zaL (α := Nat) (fun i => [(0, .one (.po 1000 0)), (2, vI ((p.kids.take i).foldl upP (s, m)).1), (3, vI t), (5, .one (.po 5 0)), (8, vI (((p.kids.map encP).length : Int) - 1)), (49, vL ((p.kids.take (((p.kids.map encP).length : Int) - 1).toNat).map encP)), (50, vI (((p.kids.take (((p.kids.map encP).length : Int) - 1).toNat).map encP).length : Int)), (51, vI i)])
        (fun i => [(5, .box 34 (encP p)), (1000, .obj 45 [.own 1001 (((p.kids.take i).foldl upP (s, m)).2.elems.map encP), .own 1002 (((p.kids.take i).foldl upP (s, m)).2.moves.map encMv), .d (.v (.int .i64 ((p.kids.take i).foldl upP (s, m)).2.states))]), (1001, .tok 34 20), (1002, .tok 68 3)])
        (fun i => i ≤ p.kids.length - 1) (fun i => p.kids.length - 1 - i) 0 (Nat.zero_le _) subA subA ?_
      intro i hi
      by_cases hlti : i < p.kids.length - 1
      · obtain ⟨q, hq⟩ : ∃ q, p.kids[i]? = some q := ⟨_, List.getElem?_eq_getElem (by omega)⟩
        have hqt : (p.kids.take (((p.kids.map encP).length : Int) - 1).toNat)[i]? = some q := by rw [List.getElem?_take, if_pos (by omega)]; exact hq
        have hf := (zdo (s := s) (t := t) hs hq hb1).1
        have hst : (p.kids.take (i + 1)).foldl upP (s, m) = upP ((p.kids.take i).foldl upP (s, m)) q := zbt hq
        have hS := zhU ((p.kids.take i).foldl upP (s, m)).2 (zbK hf (by omega))
        have hL := ih q (List.mem_of_getElem? hq) ((p.kids.take i).foldl upP (s, m)).1 ((p.kids.take i).foldl upP (s, m)).2.states (stM ((p.kids.take i).foldl upP (s, m)).2) (hsk q (List.mem_of_getElem? hq)) (zhQ hf)
        simp only [autoS, stM] at hS hL
        repeat' (first | refine zac ?_ | refine zaa ?_ | ((first | refine zab ?_ | refine zaf ?_ ); (first | change W _ _ _ _ _ | change Exists _ )) | (refine isRL ?_; first | refine uMv ?_ | refine uAs ?_ | (refine isBin ?_; first | refine uIb ?_ | refine uBb true ?_ ) | (refine isLd ?_; first | refine uLp ?_ | refine uLb ?_ ) | (refine isCl ?_; first | refine uM (hS) ?_ | refine uM (hL) ?_ ) | (refine isSt ?_; first | refine uSw ?_ ) | refine uX ?_ | refine uN ?_) | refine zad ?_ | refine wT fun _ => ?_ )
        exact ⟨i + 1, by omega, by omega, (by simp only [hst]; exact subA), (by simp only [hst]; exact subA)⟩
      · obtain rfl : i = (((p.kids.map encP).length : Int) - 1).toNat := by omega
        repeat' (first | refine zac ?_ | refine zaa ?_ | ((first | refine zab ?_ | refine zaD ?_ ); (first | change W _ _ _ _ _ | skip)) | (refine isRL ?_; first | refine uMv ?_ | (refine isBin ?_; first | refine uBb false ?_ ) | (refine isLd ?_; first | refine uLp ?_ | refine uL1 ?_ ) | (refine isCl ?_; first | refine uM (hE) ?_ ) | (refine isFa ?_; first | refine uP ?_) | refine uX ?_ ) | refine wF fun _ => ?_ )
        exact zcl (by rfl) rfl ghasA
    · have h4 : p.kind = 4 := by omega
      have n1 : (p.kind == 1) = false := by simp [h4]
      have n2 : (p.kind == 2) = false := by simp [h4]
      have n3 : (p.kind == 3) = false := by simp [h4]
      have n4 : (p.kind == 4) = true := by simp [h4]
      rw [zcY h4]
      have hb1 := hb
      simp only [autoS]
      (refine zaR (Ty := Ty) zag Tryz.func33 rfl rfl rfl (by rfl) fun w0 S0 hp => ?_; simp only [argsF, List.zipIdx_cons, List.zipIdx_nil, List.map_cons, List.map_nil, Nat.zero_add])
      repeat' (first | refine zac ?_ | refine zaa ?_ | ((first | refine zab ?_ ); (first | change W _ _ _ _ _ )) | (refine isRL ?_; first | refine uMv ?_ | refine uAs ?_ | (refine isBin ?_; first | refine uBb true ?_ | refine uBb false ?_ ) | (refine isLd ?_; first | refine uL1 ?_ ) | (refine isCl ?_; first | refine uP ?_ ) | (refine isFa ?_; first | refine uP ?_) | refine uBx ?_ ) | refine zad ?_ | refine wT fun _ => ?_ | refine wF fun _ => ?_ )
      refine zaL (α := Nat) (fun i => [(0, .one (.po 1000 0)), (2, vI s), (3, vI t), (5, .one (.po 5 0)), (76, vL (p.kids.map encP)), (77, vI ((p.kids.map encP).length : Int)), (78, vI i)])
        (fun i => [(5, .box 34 (encP p)), (1000, .obj 45 [.own 1001 (((p.kids.take i).foldl (fun m k => layM k s t m) m).elems.map encP), .own 1002 (((p.kids.take i).foldl (fun m k => layM k s t m) m).moves.map encMv), .d (.v (.int .i64 ((p.kids.take i).foldl (fun m k => layM k s t m) m).states))]), (1001, .tok 34 20), (1002, .tok 68 3)])
        (fun i => i ≤ p.kids.length) (fun i => p.kids.length - i) 0 (Nat.zero_le _) subA subA ?_
      intro i hi
      by_cases hlti : i < p.kids.length
      · obtain ⟨q, hq⟩ : ∃ q, p.kids[i]? = some q := ⟨_, List.getElem?_eq_getElem hlti⟩
        have hf := (zdo (s := s) (t := t) hs hq hb1).2
        have hst : (p.kids.take (i + 1)).foldl (fun m k => layM k s t m) m = layM q s t ((p.kids.take i).foldl (fun m k => layM k s t m) m) := zbt hq
        have hL := ih q (List.mem_of_getElem? hq) s t ((p.kids.take i).foldl (fun m k => layM k s t m) m) (hsk q (List.mem_of_getElem? hq)) (zbK hf (by omega))
        simp only [autoS] at hL
        repeat' (first | refine zac ?_ | refine zaa ?_ | ((first | refine zab ?_ | refine zaf ?_ ); (first | change W _ _ _ _ _ | change Exists _ )) | (refine isRL ?_; first | refine uMv ?_ | (refine isBin ?_; first | refine uIb ?_ | refine uBb true ?_ ) | (refine isLd ?_; first | refine uLp ?_ | refine uLb ?_ ) | (refine isCl ?_; first | refine uM (hL) ?_ ) | (refine isSt ?_; first | refine uSw ?_ ) | refine uX ?_ | refine uN ?_) | refine zad ?_ | refine wT fun _ => ?_ )
        exact ⟨i + 1, by omega, by omega, subA, (by simp only [hst]; exact subA)⟩
      · obtain rfl : i = p.kids.length := by omega
        rw [List.take_length]
        repeat' (first | refine zac ?_ | refine zaa ?_ | ((first | refine zab ?_ | refine zaD ?_ ); (first | change W _ _ _ _ _ | skip)) | (refine isRL ?_; first | (refine isBin ?_; first | refine uBb false ?_ ) ) | refine wF fun _ => ?_ )
        exact zcl (by rfl) rfl ghasA
  · have n1 : (p.kind == 1) = false := by simp [hk]
    have n2 : (p.kind == 2) = false := by simp [hk]
    have n3 : (p.kind == 3) = false := by simp [hk]
    have n4 : (p.kind == 4) = false := by simp [hk]
    have n5 : (p.kind == 5) = true := by simp [hk]
    have hnk : nodesP p = 1 + nodesP k := by rw [hnp, hkk]; simp
    have hmem : k ∈ p.kids := by rw [hkk]; exact List.mem_cons_self
    have hq : p.kids[0]? = some k := by rw [hkk]; rfl
    have hnp := zcf k
    have hst0 := hb.2.2
    rcases hm with hm | hm
    · have x1 : (p.max == 1) = true := by simp [hm]
      rw [zc0 hk hkk hm]
      have hM := zfw m s t (-1) (by have := hb.2.1; omega)
      have hL := ih k hmem s t (mvM s t (-1) m) (hsk k hmem) (zhV (zbK hb (by omega)))
      simp only [autoS, mvM] at hM hL ⊢
      (refine zaR (Ty := Ty) zag Tryz.func33 rfl rfl rfl (by rfl) fun w0 S0 hp => ?_; simp only [argsF, List.zipIdx_cons, List.zipIdx_nil, List.map_cons, List.map_nil, Nat.zero_add])
      repeat' (first | refine zac ?_ | refine zaa ?_ | ((first | refine zab ?_ | refine zae ?_ ); (first | change W _ _ _ _ _ | skip)) | (refine isRL ?_; first | refine uMv ?_ | refine uAs ?_ | (refine isBin ?_; first | refine uBb true ?_ | refine uBb false ?_ ) | (refine isLd ?_; first | refine uLp ?_ | refine uL1 ?_ ) | (refine isCl ?_; first | refine uM (hM) ?_ | refine uM (hL) ?_ ) | (refine isFa ?_; first | refine uP ?_) | refine uX ?_ | refine uBx ?_ ) | refine zad ?_ | refine wT fun _ => ?_ | refine wF fun _ => ?_ )
      exact zcO (by rfl) rfl ghasA
    · have x1 : (p.max == 1) = false := by simp [hm]
      rw [zb7 hk hkk (by omega)]
      have hS := zhU m (zbK hb (by omega))
      have hf1 : fits (nodesP k) (mvM s m.states (-1) (stM m)) := by
        obtain ⟨f1, f2, f3, f4⟩ := hb
        exact ⟨by show m.elems.length + _ ≤ _; omega, by show (m.moves ++ _).length + 2 * _ ≤ _; rw [List.length_append, List.length_singleton]; omega, by show 0 ≤ m.states + 1; omega, by show m.states + 1 + _ ≤ _; omega⟩
      have hM1 := zfw (stM m) s m.states (-1) (by have := hb.2.1; show m.moves.length + 1 ≤ _; omega)
      have hL := ih k hmem m.states m.states (mvM s m.states (-1) (stM m)) (hsk k hmem) hf1
      have hM2 := zfw (layM k m.states m.states (mvM s m.states (-1) (stM m))) m.states t (-1) (by
        obtain ⟨⟨a1, a2, a3, a4⟩, _⟩ := zcg k m.states m.states (mvM s m.states (-1) (stM m)) (hsk k hmem)
        have e1 : (mvM s m.states (-1) (stM m)).moves.length = m.moves.length + 1 := by simp [mvM, stM]
        have e2 : (mvM s m.states (-1) (stM m)).elems.length = m.elems.length := rfl
        have e3 : (mvM s m.states (-1) (stM m)).states = m.states + 1 := rfl
        obtain ⟨f1, f2, f3, f4⟩ := hb
        omega)
      generalize hG : layM k m.states m.states (mvM s m.states (-1) (stM m)) = G at hL hM2 ⊢
      simp only [autoS, mvM, stM] at hS hM1 hL hM2 ⊢
      (refine zaR (Ty := Ty) zag Tryz.func33 rfl rfl rfl (by rfl) fun w0 S0 hp => ?_; simp only [argsF, List.zipIdx_cons, List.zipIdx_nil, List.map_cons, List.map_nil, Nat.zero_add])
      repeat' (first | refine zac ?_ | refine zaa ?_ | ((first | refine zab ?_ | refine zaf ?_ ); (first | change W _ _ _ _ _ | skip)) | (refine isRL ?_; first | refine uMv ?_ | refine uAs ?_ | (refine isBin ?_; first | refine uBb true ?_ | refine uBb false ?_ ) | (refine isLd ?_; first | refine uLp ?_ | refine uL1 ?_ ) | (refine isCl ?_; first | refine uM (hS) ?_ | refine uM (hM1) ?_ | refine uM (hL) ?_ | refine uM (hM2) ?_ ) | (refine isFa ?_; first | refine uP ?_) | refine uX ?_ | refine uBx ?_ ) | refine zad ?_ | refine wT fun _ => ?_ | refine wF fun _ => ?_ )
      exact zcl (by rfl) rfl ghasA
end Go.Proofs.YtjhkehloipmjfaaGreat
