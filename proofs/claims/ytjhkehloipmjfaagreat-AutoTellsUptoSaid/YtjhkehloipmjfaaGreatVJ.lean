/- Walks: slices.Repeat of one pattern. -/
import Derived.Test.YtjhkehloipmjfaaGreatWI
import Derived.Test.YtjhkehloipmjfaaGreatVA
set_option maxRecDepth 100000
set_option maxHeartbeats 4000000
namespace Go.Proofs.YtjhkehloipmjfaaGreat
open Go.RowKit
theorem zm7 {z : Int} (h1 : 0 ≤ z) (h2 : z ≤ 18446744073709551615) : IntKind.u64.wrap z = z := by
  rw [IntKind.wrap_u64]; omega
end Go.Proofs.YtjhkehloipmjfaaGreat
namespace Go.Proofs.YtjhkehloipmjfaaGreat
open Go.RowKit
theorem zej (k : Int) (l : List Pt) : (l.flatMap (openP k)).length ≤ (l.map nodesP).sum :=
  Nat.le_trans (zbH nodesP _ fun x _ => zcf x) (zeO k l)
theorem zj1 {α β : Type} {f : α → β} {l : List α} {q : α} {i : Nat} (hq : l[i]? = some q) : (l.take (i + 1)).map f = (l.take i).map f ++ [f q] := by
  rw [List.take_add_one, hq, Option.toList_some, List.map_append, List.map_singleton]
theorem ziC {p : Pt} (h : rightP p = true) (hk : p.kind = 3 ∨ p.kind = 4) : ((p.kids.map normal).map nodesP).sum ≤ 2 * sizeN p := by
  rw [List.map_map]
  refine Nat.le_trans (zfx _ (fun k => 2 * sizeN k) p.kids fun k hk => by have := zc4 k (za3 h k hk); simp only [Function.comp]; omega) ?_
  rw [zcD (by omega)]
  have h7 : ∀ l : List Pt, (l.map fun k => 2 * sizeN k).sum = 2 * (l.map sizeN).sum := fun l => by
    induction l with
    | nil => rfl
    | cons x l ih => simp only [List.map_cons, List.sum_cons, ih]; omega
  rw [h7]; omega
theorem zjq {p b : Pt} (h1 : 0 ≤ p.min) (h2 : p.min ≤ 20) (h3 : p.max = -1 ∨ (1 ≤ p.max ∧ p.min ≤ p.max ∧ p.max ≤ 20)) : ((List.replicate p.min.toNat b ++ moreP p b).map nodesP).sum ≤ 21 * (nodesP b + 2) := by
  rw [List.map_append, List.sum_append, List.map_replicate, zdV]
  refine Nat.le_trans (zfg (p := p) b h1 h3) (Nat.mul_le_mul_right _ ?_)
  unfold timesP; split <;> omega
end Go.Proofs.YtjhkehloipmjfaaGreat
namespace Go.Proofs.YtjhkehloipmjfaaGreat
open Go.RowKit
theorem zcz (b : Pt) (m : Int) : encP (quantP b m) = [.v (.int .i64 5), .v (.string ⟨#[]⟩), .v (.int .i64 0), .v (.int .i64 0), .v (.string ⟨#[]⟩), .v (.int .i64 0), .v (.int .i64 0), .v (.float .f64 0), .v (.string ⟨#[]⟩), .sl [],
      .v (.int .i64 0), .v (.string ⟨#[]⟩), .v (.int .i64 0), .v (.int .i64 0), .v (.float .f64 0), .v (.string ⟨#[]⟩), .sl [], .v (.int .i64 0), .v (.int .i64 m), .sl [encP b]] := by rw [za9]; rfl
theorem zhp : ∀ p : Pt, rightP p = true → sizeN p ≤ 5000 → CallsV Tryz.prog 9 [.dat (encP p)] (.val (.dat (encP (normal p)))) := Pt.ind fun p ih h hs => by
  have hr := za3 h
  have hkl := zln h
  have ih' : ∀ k ∈ p.kids, CallsV Tryz.prog 9 [.dat (encP k)] (.val (.dat (encP (normal k)))) := fun k hk => ih k hk (hr k hk) (by have := ze0 h hk; omega)
  have hlm : (p.kids.map encP).length = p.kids.length := List.length_map _
  (refine zaj (Ty := Ty) zag Tryz.func9 rfl rfl rfl fun w0 S0 => ?_; simp only [argsF, List.zipIdx_cons, List.zipIdx_nil, List.map_cons, List.map_nil, Nat.zero_add])
  by_cases k1 : p.kind = 1
  · repeat (first | refine zac ?_ | refine zaa ?_ | ((first | refine zab ?_ | refine zae ?_); (first | change W _ _ _ _ _ | skip)) | (refine isRL ?_; first | refine uMv ?_ | refine uO ?_ | (refine isBin ?_; first | refine uBb true ?_ ) | (refine isLd ?_; first | refine uLb ?_ | refine uL1 ?_ ) | (refine isFa ?_; first | refine uP ?_) | (refine isSt ?_; first | refine uSw ?_ ) | refine uP ?_ | refine uBx ?_ | refine uN ?_ ) | refine wT fun _ => ?_ )
    exact zb4 rfl rfl rfl rfl rfl (zaC _) (by rw [za1 (.inl k1)])
  by_cases k2 : p.kind = 2
  · repeat (first | refine zac ?_ | refine zaa ?_ | ((first | refine zab ?_ | refine zae ?_); (first | change W _ _ _ _ _ | skip)) | (refine isRL ?_; first | refine uMv ?_ | (refine isBin ?_; first | refine uBb true ?_ | refine uBb false ?_ ) | (refine isLd ?_; first | refine uLb ?_ | refine uL1 ?_ ) | (refine isFa ?_; first | refine uP ?_) | (refine isSt ?_; first | refine uSw ?_ ) | refine uP ?_ | refine uBx ?_ | refine uN ?_ ) | refine wT fun _ => ?_ )
    exact zb4 rfl rfl rfl rfl rfl (zaC _) (by rw [za1 (.inr k2)])
  repeat (first | refine zac ?_ | refine zaa ?_ | ((first | refine zab ?_ | refine zaf ?_ ); (first | change W _ _ _ _ _ )) | (refine isRL ?_; first | refine uMv ?_ | refine uAs ?_ | (refine isBin ?_; first | refine uBb false ?_ ) | (refine isLd ?_; first | refine uL1 ?_ ) | (refine isFa ?_; first | refine uP ?_) | refine uP ?_ | refine uBx ?_ | refine uN ?_ ) | refine zad ?_ | refine wF fun _ => ?_)
  refine uNil 3 100 34 20 ?_
  refine zaL (α := Nat) (fun i => [(1, .one (.po 1 0)), (2, .one (.po 2 0)), (3, .one (.own 100 (((p.kids.take i).map normal).map encP))), (4, vI i)]) (fun _ => [(1, .box 34 (encP p)), (2, .box 34 zPat), (100, .tok 34 20)]) (fun i => i ≤ p.kids.length) (fun i => p.kids.length - i) 0 (Nat.zero_le _) subA subA ?_
  intro i hi
  by_cases hlt : i < p.kids.length
  · obtain ⟨q, hq⟩ : ∃ q, p.kids[i]? = some q := ⟨_, List.getElem?_eq_getElem hlt⟩
    have hQ := ih' q (List.mem_of_getElem? hq)
    have hnx' : ((p.kids.take i).map normal).map encP ++ [encP (normal q)] = ((p.kids.take (i + 1)).map normal).map encP := by rw [zj1 hq, List.map_append]; rfl
    have hl2 : (((p.kids.take i).map normal).map encP).length ≤ 5000 := by simp; omega
    repeat (first | refine zac ?_ | refine zaa ?_ | ((first | refine zab ?_ | refine zaf ?_ ); (first | change W _ _ _ _ _ | change Exists _ )) | (refine isRL ?_; first | refine uMv ?_ | refine uAs ?_ | (refine isBin ?_; first | refine uIb ?_ | refine uBb true ?_ ) | (refine isLd ?_; first | refine uLp ?_ | refine uLb ?_ | refine uL1 ?_ ) | (refine isCl ?_; first | refine uC (hQ) ?_ | refine uP ?_ | refine uAk ?_ ) | (refine isFa ?_; first | refine uP ?_) | (refine isSt ?_; first | refine uSw ?_ ) | refine uX ?_ | refine uBs ?_ | refine uN ?_ ) | refine zad ?_ | refine wT fun _ => ?_ )
    exact ⟨i + 1, by omega, hlt, subA, subA⟩
  · have hil : i = p.kids.length := by omega
    subst hil
    rw [List.take_length]
    by_cases k5 : p.kind = 5
    · obtain ⟨⟨k, hk, hkr⟩, h1, h2, h3⟩ := za6 h k5
      have hnk := zc4 k hkr
      have hsk := ze0 h (k := k) (by rw [hk]; exact List.mem_cons_self)
      have hb := Nat.le_trans (zej 3 _) (zjq (p := p) (b := normal k) h1 h2 h3)
      have hj := zd4 3 (List.replicate p.min.toNat (normal k) ++ moreP p (normal k)) (by omega)
      have hmore : moreP p (normal k) = if p.max < 0 then [quantP (normal k) (-1)] else if p.min < p.max then [tailP (normal k) (p.max - p.min - 1).toNat] else [] := rfl
      have hfin : normal p = joinP 3 (List.replicate p.min.toNat (normal k) ++ moreP p (normal k)) := zby k5 hk
      generalize hbb : normal k = b at *
      have hb2 : (p.kids.map normal).map encP = [encP b] := by rw [hk, List.map_cons, hbb]; rfl
      rw [hb2]
      repeat (first | refine zac ?_ | refine zaa ?_ | ((first | refine zab ?_ | refine zaf ?_ | refine zaD ?_ ); (first | change W _ _ _ _ _ )) | (refine isRL ?_; first | refine uMv ?_ | refine uAs ?_ | (refine isBin ?_; first | refine uBb false ?_ ) | (refine isLd ?_; first | refine uLp ?_ | refine uL1 ?_ ) | (refine isCl ?_; first | refine uP ?_ ) | (refine isFa ?_; first | refine uP ?_) | (refine isSt ?_; first | refine uSw ?_ ) | refine uX ?_ | refine uN ?_ ) | refine zad ?_ | refine wF fun _ => ?_)
      refine uNil 3 101 34 20 ?_
      refine zaL (α := Nat) (fun i => [(1, .one (.po 1 0)), (2, .one (.po 2 0)), (3, .one (.own 101 ((List.replicate i b).map encP))), (6, .one (.po 6 0)), (7, vI i)]) (fun _ => [(1, .box 34 (encP p)), (2, .box 34 zPat), (6, .box 34 (encP b)), (101, .tok 34 20)]) (fun i => i ≤ p.min.toNat) (fun i => p.min.toNat - i) 0 (Nat.zero_le _) subA subA ?_
      intro i hi
      have hl3 : (List.replicate i b).length ≤ 20 := by rw [List.length_replicate]; omega
      by_cases hlt2 : i < p.min.toNat
      · have hlt3 : (i : Int) < p.min := by omega
        have hnx' : (List.replicate i b).map encP ++ [encP b] = (List.replicate (i + 1) b).map encP := by rw [List.replicate_succ', List.map_append]; rfl
        repeat (first | refine zac ?_ | refine zaa ?_ | ((first | refine zab ?_ | refine zaf ?_ ); (first | change W _ _ _ _ _ | change Exists _ )) | (refine isRL ?_; first | refine uMv ?_ | refine uAs ?_ | (refine isBin ?_; first | refine uIb ?_ | refine uBb true ?_ ) | (refine isLd ?_; first | refine uLb ?_ | refine uL1 ?_ ) | (refine isCl ?_; first | refine uAk ?_ ) | (refine isFa ?_; first | refine uP ?_) | refine uBs ?_ ) | refine zad ?_ | refine wT fun _ => ?_ )
        exact ⟨i + 1, by omega, hlt2, subA, subA⟩
      · have hlt3 : ¬ (i : Int) < p.min := by omega
        have him : i = p.min.toNat := by omega
        by_cases hm : p.max < 0
        · have hgt : ¬ p.max > p.min := by omega
          rw [if_pos hm] at hmore
          rw [hmore, ← him] at hj
          have hnx' : (List.replicate i b).map encP ++ [encP (quantP b (-1))] = (List.replicate i b ++ [quantP b (-1)]).map encP := by rw [List.map_append]; rfl
          rw [zcz] at hnx'
          repeat (first | refine zac ?_ | refine zaa ?_ | ((first | refine zab ?_ | refine zaf ?_ | refine zaD ?_ | refine zae ?_); (first | change W _ _ _ _ _ | change EndQ _ _ _ _ _ _ )) | (refine isRL ?_; first | refine uMv ?_ | refine uAs ?_ | (refine isBin ?_; first | refine uBb true ?_ | refine uBb false ?_ ) | (refine isLd ?_; first | refine uLb ?_ | refine uL1 ?_ ) | (refine isCl ?_; first | refine uC (hj) ?_ | refine uAk ?_ ) | (refine isFa ?_; first | refine uP ?_) | (refine isBd ?_; first | refine uBd ?_ ) | (refine isSt ?_; first | refine uSw ?_ ) | refine uBs ?_ ) | refine wT fun _ => ?_ | refine wF fun _ => ?_)
          exact zb4 rfl rfl rfl rfl rfl (zaC _) (by rw [hfin, hmore, him])
        · rw [if_neg hm] at hmore
          by_cases hgt : p.min < p.max
          · rw [if_pos hgt] at hmore
            rw [hmore, ← him] at hj
            repeat (first | refine zac ?_ | refine zaa ?_ | ((first | refine zab ?_ | refine zaf ?_ | refine zaD ?_ ); (first | change W _ _ _ _ _ )) | (refine isRL ?_; first | refine uMv ?_ | refine uAs ?_ | (refine isBin ?_; first | refine uBb true ?_ | refine uBb false ?_ ) | (refine isLd ?_; first | refine uLb ?_ | refine uL1 ?_ ) | (refine isFa ?_; first | refine uP ?_) | (refine isBd ?_; first | refine uBd ?_ ) | (refine isSt ?_; first | refine uSw ?_ ) | refine uBs ?_ | refine uN ?_ ) | refine zad ?_ | refine wT fun _ => ?_ | refine wF fun _ => ?_)
            refine zaL (α := Nat) (fun j => [(1, .one (.po 1 0)), (2, .one (.po 2 0)), (3, .one (.own 101 ((List.replicate i b).map encP))), (6, .one (.po 6 0)), (8, .one (.po 8 0)), (9, vI ((j + 1 : Nat) : Int))]) (fun j => [(1, .box 34 (encP p)), (2, .box 34 zPat), (6, .box 34 (encP b)), (101, .tok 34 20), (8, .box 34 (encP (tailP b j)))]) (fun j => (j : Int) + 1 ≤ p.max - p.min) (fun j => (p.max - p.min).toNat - j) 0 (by omega) subA (by exact zbk (by rfl) (zbk (by rfl) (zbk (by rfl) (zbk (by rfl) (zbk (by rw [tailP, zcz]; rfl) (zer _)))))) ?_
            intro j hj2
            by_cases hlt4 : (j : Int) + 1 < p.max - p.min
            · have hnt := zdR b j
              have hbj : (([b, tailP b j] : List Pt).flatMap (openP 3)).length ≤ 1000000 := by
                refine Nat.le_trans (zej 3 _) ?_
                have : (j + 1) * (nodesP b + 2) ≤ 20 * 20002 := Nat.mul_le_mul (by omega) (by omega)
                simp only [List.map_cons, List.map_nil, List.sum_cons, List.sum_nil]
                omega
              have hJ := zd4 3 [b, tailP b j] hbj
              repeat (first | refine zac ?_ | refine zaa ?_ | ((first | refine zab ?_ | refine zaf ?_ ); (first | change W _ _ _ _ _ | change Exists _ )) | (refine isRL ?_; first | refine uMv ?_ | refine uAs ?_ | (refine isBin ?_; first | refine uIb ?_ | refine uBb true ?_ ) | (refine isLd ?_; first | refine uLb ?_ | refine uL1 ?_ ) | (refine isCl ?_; first | refine uC (hJ) ?_ ) | (refine isFa ?_; first | refine uP ?_) | (refine isBd ?_; first | refine uBd ?_ ) | (refine isSt ?_; first | refine uSw ?_ ) | refine uBs ?_ ) | refine zad ?_ | refine wT fun _ => ?_ )
              exact ⟨j + 1, by omega, by omega, subA, (by exact zbk (by rfl) (zbk (by rfl) (zbk (by rfl) (zbk (by rfl) (zbk (by rw [tailP, zcz]; rfl) (zer _))))))⟩
            · have hje : j = (p.max - p.min - 1).toNat := by omega
              have hnx' : (List.replicate i b).map encP ++ [encP (tailP b j)] = (List.replicate i b ++ [tailP b (p.max - p.min - 1).toNat]).map encP := by rw [← hje, List.map_append]; rfl
              repeat (first | refine zac ?_ | refine zaa ?_ | ((first | refine zab ?_ | refine zaD ?_ | refine zae ?_); (first | change W _ _ _ _ _ | change EndQ _ _ _ _ _ _ )) | (refine isRL ?_; first | refine uMv ?_ | refine uAs ?_ | (refine isBin ?_; first | refine uIb ?_ | refine uBb false ?_ ) | (refine isLd ?_; first | refine uLb ?_ | refine uL1 ?_ ) | (refine isCl ?_; first | refine uC (hj) ?_ | refine uAk ?_ ) | (refine isFa ?_; first | refine uP ?_) | (refine isSt ?_; first | refine uSw ?_ ) | refine uBs ?_ ) | refine wF fun _ => ?_)
              exact zb4 rfl rfl rfl rfl rfl (zaC _) (by rw [hfin, hmore, him])
          · rw [if_neg hgt] at hmore
            rw [hmore, List.append_nil, ← him] at hj
            repeat (first | refine zac ?_ | refine zaa ?_ | ((first | refine zab ?_ | refine zaf ?_ | refine zaD ?_ | refine zae ?_); (first | change W _ _ _ _ _ | change EndQ _ _ _ _ _ _ )) | (refine isRL ?_; first | refine uMv ?_ | (refine isBin ?_; first | refine uBb false ?_ ) | (refine isLd ?_; first | refine uL1 ?_ ) | (refine isCl ?_; first | refine uC (hj) ?_ ) | (refine isFa ?_; first | refine uP ?_) | (refine isSt ?_; first | refine uSw ?_ ) ) | refine wF fun _ => ?_)
            exact zb4 rfl rfl rfl rfl rfl (zaC _) (by rw [hfin, hmore, List.append_nil, him])
    · have k34 : p.kind = 3 ∨ p.kind = 4 := by have := zbF h; omega
      have hb := Nat.le_trans (zej p.kind (p.kids.map normal)) (ziC h k34)
      have hj := zd4 p.kind (p.kids.map normal) (by omega)
      repeat (first | refine zac ?_ | refine zaa ?_ | ((first | refine zab ?_ | refine zaD ?_ | refine zae ?_); (first | change W _ _ _ _ _ | skip)) | (refine isRL ?_; first | refine uMv ?_ | (refine isBin ?_; first | refine uBb true ?_ | refine uBb false ?_ ) | (refine isLd ?_; first | refine uL1 ?_ ) | (refine isCl ?_; first | refine uC (hj) ?_ | refine uP ?_ ) | (refine isFa ?_; first | refine uP ?_) | (refine isSt ?_; first | refine uSw ?_ ) ) | refine wT fun _ => ?_ | refine wF fun _ => ?_)
      exact zb4 rfl rfl rfl rfl rfl (zaC _) (by rw [zbq (by omega)])
end Go.Proofs.YtjhkehloipmjfaaGreat
