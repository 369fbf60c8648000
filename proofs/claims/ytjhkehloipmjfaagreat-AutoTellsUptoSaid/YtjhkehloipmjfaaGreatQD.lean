/- Walks: a pattern is laid into a machine, by the document. -/
import Derived.Test.YtjhkehloipmjfaaGreatMK
set_option maxRecDepth 100000
set_option maxHeartbeats 4000000
namespace Go.Proofs.YtjhkehloipmjfaaGreat
open Go.RowKit
def rautoS (m : Mach) : Obs := [(1000, .obj 49 [.own 1001 (m.elems.map encP), .own 1002 (m.moves.map encMv), .d (.v (.int .i64 m.states))]), (1001, .tok 34 20), (1002, .tok 89 3)]
theorem zl0 : ∀ (p : Pt) (s t : Int) (m : Mach), shapeP p = true → fits (nodesP p) m → CallsM Tryz.prog 34 [.one (.po 1000 0), .dat (encP p), vI s, vI t] (rautoS m) (.tup []) (rautoS (layM p s t m)) := Pt.ind fun p ih s t m hs hb => by
  have hsk := zbv hs
  have hnp := zbf p
  have hlm : (p.kids.map encP).length = p.kids.length := List.length_map _
  rcases zbC hs with ⟨hk, hk0⟩ | ⟨hk, hne⟩ | ⟨hk, ⟨k, hkk⟩, hm⟩
  · rw [zb9 hk]
    have hlE : (m.elems.map encP).length = m.elems.length := List.length_map _
    rw [← hlE]
    have hz := za4 m.elems
    have hzm := zdG m.moves
    obtain ⟨h1, h2, h3, h4⟩ := hb
    have hnx : m.elems.map encP ++ [encP p] = (m.elems ++ [p]).map encP := by rw [List.map_append]; rfl
    have hnm : m.moves.map encMv ++ [[.v (.int .i64 s), .v (.int .i64 t), .v (.int .i64 ((m.elems.map encP).length : Int))]] = (m.moves ++ [Mv.mk s t ((m.elems.map encP).length : Int)]).map encMv := by rw [List.map_append]; rfl
    simp only [rautoS, mvM, elM]
    rcases hk with hk | hk
    all_goals
      (refine zaR (Ty := Ty) zag Tryz.func34 rfl rfl rfl (by rfl) fun w0 S0 hp => ?_; simp only [argsF, List.zipIdx_cons, List.zipIdx_nil, List.map_cons, List.map_nil, Nat.zero_add])
      repeat' (first | refine zac ?_ | refine zaa ?_ | ((first | refine zab ?_ | refine zaf ?_ ); (first | change W _ _ _ _ _ )) | (refine isRL ?_; first | refine uAs ?_ | (refine isBin ?_; first | refine uBb true ?_ | refine uBb false ?_ ) | (refine isLd ?_; first | refine uL1 ?_ ) | (refine isFa ?_; first | refine uP ?_) | refine uBx ?_ ) | refine zad ?_ | refine wT fun _ => ?_ | refine wF fun _ => ?_ )
      refine uAnyLT [(1002, .tok 89 3)] [(5, .box 34 (encP p)), (1000, .obj 49 [.own 1001 (m.elems.map encP), .own 1002 (m.moves.map encMv), .d (.v (.int .i64 m.states))]), (1001, .tok 34 20)] (by intro p hp; obtain rfl := List.mem_singleton.1 hp; rfl) subA ?_
      repeat' (first | (refine isD ?_; first | refine mMv ?_ | (refine imLd ?_; first | refine mP ?_) | (refine imCl ?_; first | refine mP ?_ | refine mA ?_ ) | (refine imFa ?_; first | refine mP ?_) | (refine imBd ?_; first | refine mBd ?_ ) | refine mBs ?_ | refine mNp ?_ ) | (refine mN ?_; (first | skip)))
      refine uSo ?_
      refine uRn 31 1002 (zaS (hp 1002 rfl)) ?_
      rw [hnm]
      repeat' (first | ((first | refine zab ?_ ); (first | change W _ _ _ _ _ )) )
      refine uBig ?_
      repeat' (first | (refine isD ?_; first | refine mMv ?_ | (refine imLd ?_; first | refine mLb ?_ | refine mP ?_) | (refine imCl ?_; first | refine mP ?_ ) | (refine imFa ?_; first | refine mP ?_) | refine mNp ?_ ) )
      refine mBs (rows := [zPat]) ?_ (hr := by exact zjO _)
      repeat' (first | (refine mN ?_; (first | skip)))
      change TailOk _ _ _ _ _ _
      refine uTail ?_
      refine uRn 41 1001 (zaS (hp 1001 rfl)) ?_
      repeat' (first | ((first | refine zab ?_ ); (first | skip)) )
      exact zcl (by rfl) rfl ghasA
  · have hlen : 0 < p.kids.length := List.length_pos_iff.2 hne
    have hkn : p.kids.length ≤ 20000 := by have := zbH nodesP p.kids (fun x _ => zcf x); have := hb.1; omega
    have hzk : sized 20 (p.kids.map encP) = true := za4 p.kids
    have hb1 := hb
    by_cases h3 : p.kind = 3
    · have n1 : (p.kind == 1) = false := by simp [h3]
      have n2 : (p.kind == 2) = false := by simp [h3]
      have n3 : (p.kind == 3) = true := by simp [h3]
      obtain ⟨kl, hkl⟩ : ∃ k, p.kids[p.kids.length - 1]? = some k := ⟨_, List.getElem?_eq_getElem (by omega)⟩
      have hfin := zc1 h3 hkl s t m
      generalize layM p s t m = R at hfin ⊢
      simp only [rautoS]
      (refine zaR (Ty := Ty) zag Tryz.func34 rfl rfl rfl (by rfl) fun w0 S0 hp => ?_; simp only [argsF, List.zipIdx_cons, List.zipIdx_nil, List.map_cons, List.map_nil, Nat.zero_add])
      repeat' (first | refine zac ?_ | refine zaa ?_ | ((first | refine zab ?_ ); (first | change W _ _ _ _ _ )) | (refine isRL ?_; first | refine uAs ?_ | (refine isBin ?_; first | refine uBb true ?_ | refine uBb false ?_ ) | (refine isLd ?_; first | refine uL1 ?_ ) | (refine isFa ?_; first | refine uP ?_) | refine uBx ?_ ) | refine zad ?_ | refine wT fun _ => ?_ | refine wF fun _ => ?_ )
      refine zaL (α := Nat × Int × Mach) (fun x => [(0, .one (.po 1000 0)), (2, vI x.2.1), (3, vI t), (5, .one (.po 5 0)), (8, vI x.1)])
        (fun x => [(5, .box 34 (encP p)), (1000, .obj 49 [.own 1001 (x.2.2.elems.map encP), .own 1002 (x.2.2.moves.map encMv), .d (.v (.int .i64 x.2.2.states))]), (1001, .tok 34 20), (1002, .tok 89 3)])
        (fun x => (x.1 < p.kids.length ∧ (x.2.1, x.2.2) = (p.kids.take x.1).foldl upP (s, m)) ∨ (x.1 = p.kids.length ∧ x.2.2 = R)) (fun x => p.kids.length - x.1) (0, s, m) (.inl ⟨hlen, rfl⟩) subA subA ?_
      rintro ⟨i, f, M⟩ hi
      dsimp only at hi ⊢
      rcases hi with ⟨hlti, hst⟩ | ⟨rfl, rfl⟩
      · obtain ⟨q, hq⟩ : ∃ q, p.kids[i]? = some q := ⟨_, List.getElem?_eq_getElem hlti⟩
        have hf := (zdo (s := s) (t := t) hs hq hb1).1
        rw [← hst] at hf
        obtain ⟨f1, f2, f3, f4⟩ := id hf
        dsimp only at hf f1 f2 f3 f4
        by_cases hlast : i + 1 < p.kids.length
        · have hst2 : (p.kids.take (i + 1)).foldl upP (s, m) = upP (f, M) q := by rw [zbt hq, ← hst]
          have hL := ih q (List.mem_of_getElem? hq) f M.states (stM M) (hsk q (List.mem_of_getElem? hq)) (zhQ hf)
          simp only [rautoS, stM] at hL
          repeat' (first | refine zac ?_ | refine zaa ?_ | ((first | refine zab ?_ | refine zaf ?_ ); (first | change W _ _ _ _ _ | change Exists _ )) | (refine isRL ?_; first | refine uMv ?_ | refine uAs ?_ | (refine isBin ?_; first | refine uIb ?_ | refine uBb true ?_ ) | (refine isLd ?_; first | refine uLp ?_ | refine uL1 ?_ | refine uP ?_) | (refine isCl ?_; first | refine uM (hL) ?_ | refine uP ?_ ) | (refine isFa ?_; first | refine uP ?_) | (refine isSt ?_; first | refine uSo ?_) | refine uX ?_ | refine uNp ?_ ) | refine zad ?_ | refine wT fun _ => ?_ )
          exact ⟨(i + 1, M.states, layM q f M.states (stM M)), by dsimp only; omega, .inl ⟨hlast, hst2.symm⟩, subA, subA⟩
        · have hil : i = p.kids.length - 1 := by omega
          have hL := ih q (List.mem_of_getElem? hq) f t M (hsk q (List.mem_of_getElem? hq)) (zbK hf (by omega))
          have hqk : q = kl := by rw [hil, hkl] at hq; injection hq with hq; exact hq.symm
          have hR : layM q f t M = R := by rw [hfin, hqk, ← hil, ← hst]
          simp only [rautoS] at hL
          repeat' (first | refine zac ?_ | refine zaa ?_ | ((first | refine zab ?_ | refine zaf ?_ ); (first | change W _ _ _ _ _ | change Exists _ )) | (refine isRL ?_; first | refine uMv ?_ | refine uAs ?_ | (refine isBin ?_; first | refine uIb ?_ | refine uBb true ?_ | refine uBb false ?_ ) | (refine isLd ?_; first | refine uLp ?_ | refine uL1 ?_ ) | (refine isCl ?_; first | refine uM (hL) ?_ | refine uP ?_ ) | (refine isFa ?_; first | refine uP ?_) | refine uX ?_ ) | refine zad ?_ | refine wT fun _ => ?_ | refine wF fun _ => ?_ )
          exact ⟨(i + 1, t, layM q f t M), by dsimp only; omega, .inr ⟨by dsimp only; omega, hR⟩, subA, subA⟩
      · repeat' (first | refine zac ?_ | refine zaa ?_ | ((first | refine zab ?_ | refine zaD ?_ ); (first | change W _ _ _ _ _ | skip)) | (refine isRL ?_; first | refine uMv ?_ | (refine isBin ?_; first | refine uBb false ?_ ) | (refine isLd ?_; first | refine uL1 ?_ ) | (refine isCl ?_; first | refine uP ?_ ) | (refine isFa ?_; first | refine uP ?_) ) | refine wF fun _ => ?_ )
        exact zcl (by rfl) rfl ghasA
    · have h4 : p.kind = 4 := by omega
      have n1 : (p.kind == 1) = false := by simp [h4]
      have n2 : (p.kind == 2) = false := by simp [h4]
      have n3 : (p.kind == 3) = false := by simp [h4]
      have n4 : (p.kind == 4) = true := by simp [h4]
      rw [zcY h4]
      simp only [rautoS]
      (refine zaR (Ty := Ty) zag Tryz.func34 rfl rfl rfl (by rfl) fun w0 S0 hp => ?_; simp only [argsF, List.zipIdx_cons, List.zipIdx_nil, List.map_cons, List.map_nil, Nat.zero_add])
      repeat' (first | refine zac ?_ | refine zaa ?_ | ((first | refine zab ?_ ); (first | change W _ _ _ _ _ )) | (refine isRL ?_; first | refine uAs ?_ | (refine isBin ?_; first | refine uBb true ?_ | refine uBb false ?_ ) | (refine isLd ?_; first | refine uL1 ?_ ) | (refine isFa ?_; first | refine uP ?_) | refine uBx ?_ ) | refine zad ?_ | refine wT fun _ => ?_ | refine wF fun _ => ?_ )
      refine zaL (α := Nat) (fun i => [(0, .one (.po 1000 0)), (2, vI s), (3, vI t), (5, .one (.po 5 0)), (10, vI i)])
        (fun i => [(5, .box 34 (encP p)), (1000, .obj 49 [.own 1001 (((p.kids.take i).foldl (fun m k => layM k s t m) m).elems.map encP), .own 1002 (((p.kids.take i).foldl (fun m k => layM k s t m) m).moves.map encMv), .d (.v (.int .i64 ((p.kids.take i).foldl (fun m k => layM k s t m) m).states))]), (1001, .tok 34 20), (1002, .tok 89 3)])
        (fun i => i ≤ p.kids.length) (fun i => p.kids.length - i) 0 (Nat.zero_le _) subA subA ?_
      intro i hi
      by_cases hlti : i < p.kids.length
      · obtain ⟨q, hq⟩ : ∃ q, p.kids[i]? = some q := ⟨_, List.getElem?_eq_getElem hlti⟩
        have hf := (zdo (s := s) (t := t) hs hq hb1).2
        have hst : (p.kids.take (i + 1)).foldl (fun m k => layM k s t m) m = layM q s t ((p.kids.take i).foldl (fun m k => layM k s t m) m) := zbt hq
        have hL := ih q (List.mem_of_getElem? hq) s t ((p.kids.take i).foldl (fun m k => layM k s t m) m) (hsk q (List.mem_of_getElem? hq)) (zbK hf (by omega))
        simp only [rautoS] at hL
        repeat' (first | refine zac ?_ | refine zaa ?_ | ((first | refine zab ?_ | refine zaf ?_ ); (first | change W _ _ _ _ _ | change Exists _ )) | (refine isRL ?_; first | refine uMv ?_ | refine uAs ?_ | (refine isBin ?_; first | refine uIb ?_ | refine uBb true ?_ ) | (refine isLd ?_; first | refine uLp ?_ | refine uL1 ?_ ) | (refine isCl ?_; first | refine uM (hL) ?_ | refine uP ?_ ) | (refine isFa ?_; first | refine uP ?_) | refine uX ?_ ) | refine zad ?_ | refine wT fun _ => ?_ )
        exact ⟨i + 1, by omega, by omega, subA, (by simp only [hst]; exact subA)⟩
      · obtain rfl : i = p.kids.length := by omega
        rw [List.take_length]
        repeat' (first | refine zac ?_ | refine zaa ?_ | ((first | refine zab ?_ | refine zaD ?_ ); (first | change W _ _ _ _ _ | skip)) | (refine isRL ?_; first | refine uMv ?_ | (refine isBin ?_; first | refine uBb false ?_ ) | (refine isLd ?_; first | refine uL1 ?_ ) | (refine isCl ?_; first | refine uP ?_ ) | (refine isFa ?_; first | refine uP ?_) ) | refine wF fun _ => ?_ )
        exact zcl (by rfl) rfl ghasA
  · have n1 : (p.kind == 1) = false := by simp [hk]
    have n2 : (p.kind == 2) = false := by simp [hk]
    have n3 : (p.kind == 3) = false := by simp [hk]
    have n4 : (p.kind == 4) = false := by simp [hk]
    have n5 : (p.kind == 5) = true := by simp [hk]
    have hnk : nodesP p = 1 + nodesP k := by rw [hnp, hkk]; simp
    have hmem : k ∈ p.kids := by rw [hkk]; exact List.mem_cons_self
    have hq : p.kids[0]? = some k := by rw [hkk]; rfl
    have hnp := zcf k
    have hzm := zdG m.moves
    have hmv := hb.2.1
    have hst0 := hb.2.2
    rcases hm with hm | hm
    · have x1 : (p.max == 1) = true := by simp [hm]
      rw [zc0 hk hkk hm]
      have hL := ih k hmem s t (mvM s t (-1) m) (hsk k hmem) (zhV (zbK hb (by omega)))
      have hnm : m.moves.map encMv ++ [[.v (.int .i64 s), .v (.int .i64 t), .v (.int .i64 (-1))]] = (m.moves ++ [Mv.mk s t (-1)]).map encMv := by rw [List.map_append]; rfl
      simp only [rautoS, mvM] at hL ⊢
      (refine zaR (Ty := Ty) zag Tryz.func34 rfl rfl rfl (by rfl) fun w0 S0 hp => ?_; simp only [argsF, List.zipIdx_cons, List.zipIdx_nil, List.map_cons, List.map_nil, Nat.zero_add])
      repeat' (first | refine zac ?_ | refine zaa ?_ | ((first | refine zab ?_ | refine zae ?_ ); (first | change W _ _ _ _ _ | skip)) | (refine isRL ?_; first | refine uMv ?_ | refine uAs ?_ | (refine isBin ?_; first | refine uBb true ?_ | refine uBb false ?_ ) | (refine isLd ?_; first | refine uLp ?_ | refine uL1 ?_ | refine uP ?_) | (refine isCl ?_; first | refine uM (hL) ?_ | refine uAk ?_ ) | (refine isFa ?_; first | refine uP ?_) | (refine isBd ?_; first | refine uBd ?_ ) | (refine isSt ?_; first | refine uSo ?_) | refine uX ?_ | refine uBs ?_ | refine uNp ?_ | refine uBx ?_ ) | refine zad ?_ | refine wT fun _ => ?_ | refine wF fun _ => ?_ )
      exact zcO (by rfl) rfl ghasA
    · have x1 : (p.max == 1) = false := by simp [hm]
      rw [zb7 hk hkk (by omega)]
      have hf1 : fits (nodesP k) (mvM s m.states (-1) (stM m)) := by
        obtain ⟨f1, f2, f3, f4⟩ := hb
        exact ⟨by show m.elems.length + _ ≤ _; omega, by show (m.moves ++ _).length + 2 * _ ≤ _; rw [List.length_append, List.length_singleton]; omega, by show 0 ≤ m.states + 1; omega, by show m.states + 1 + _ ≤ _; omega⟩
      have hL := ih k hmem m.states m.states (mvM s m.states (-1) (stM m)) (hsk k hmem) hf1
      have hGl : (layM k m.states m.states (mvM s m.states (-1) (stM m))).moves.length ≤ 40000 := by
        obtain ⟨⟨a1, a2, a3, a4⟩, _⟩ := zcg k m.states m.states (mvM s m.states (-1) (stM m)) (hsk k hmem)
        have e1 : (mvM s m.states (-1) (stM m)).moves.length = m.moves.length + 1 := by simp [mvM, stM]
        omega
      generalize hG : layM k m.states m.states (mvM s m.states (-1) (stM m)) = G at hL hGl ⊢
      have hzg := zdG G.moves
      have hnm : m.moves.map encMv ++ [[.v (.int .i64 s), .v (.int .i64 m.states), .v (.int .i64 (-1))]] = (m.moves ++ [Mv.mk s m.states (-1)]).map encMv := by rw [List.map_append]; rfl
      have hng : G.moves.map encMv ++ [[.v (.int .i64 m.states), .v (.int .i64 t), .v (.int .i64 (-1))]] = (G.moves ++ [Mv.mk m.states t (-1)]).map encMv := by rw [List.map_append]; rfl
      simp only [rautoS, mvM, stM] at hL ⊢
      (refine zaR (Ty := Ty) zag Tryz.func34 rfl rfl rfl (by rfl) fun w0 S0 hp => ?_; simp only [argsF, List.zipIdx_cons, List.zipIdx_nil, List.map_cons, List.map_nil, Nat.zero_add])
      repeat' (first | refine zac ?_ | refine zaa ?_ | ((first | refine zab ?_ | refine zaf ?_ ); (first | change W _ _ _ _ _ | skip)) | (refine isRL ?_; first | refine uMv ?_ | refine uAs ?_ | (refine isBin ?_; first | refine uIb ?_ | refine uBb true ?_ | refine uBb false ?_ ) | (refine isLd ?_; first | refine uLp ?_ | refine uL1 ?_ | refine uP ?_) | (refine isCl ?_; first | refine uM (hL) ?_ | refine uAk ?_ ) | (refine isFa ?_; first | refine uP ?_) | (refine isBd ?_; first | refine uBd ?_ ) | (refine isSt ?_; first | refine uSo ?_) | refine uX ?_ | refine uBs ?_ | refine uNp ?_ | refine uBx ?_ ) | refine zad ?_ | refine wT fun _ => ?_ | refine wF fun _ => ?_ )
      exact zcl (by rfl) rfl ghasA
end Go.Proofs.YtjhkehloipmjfaaGreat
