/- Walks: the reference's labels. Of the results nothing is said but that they are; and that what is right has its kids. -/
import Derived.Test.YtjhkehloipmjfaaGreatRB
set_option maxRecDepth 100000
set_option maxHeartbeats 8000000
namespace Go.Proofs.YtjhkehloipmjfaaGreat
open Go.RowKit
theorem zh9 (s : ByteArray) (b : Bool) (h : emptyS s = b) : (s.toList == ByteArray.toList ⟨#[]⟩) = b := by
  rw [← h, emptyS, ByteArray.toList_eq, ByteArray.toList_eq]
  cases s.data.toList <;> rfl
theorem zgJ (e : E) : CallsN Tryz.prog 112 [.dat (encE e)] [] OneB := by
  (refine zam (Ty := Ty) zag Tryz.func112 rfl rfl rfl (by rfl) fun w0 S0 hp => ?_; simp only [argsF, List.zipIdx_cons, List.zipIdx_nil, List.map_cons, List.map_nil, Nat.zero_add])
  repeat' (first | refine zac ?_ | refine zaa ?_ | ((first | refine zab ?_ | refine zae ?_); (first | change W _ _ _ _ _ | change EndN _ _ _ _ _ _ )) | (refine isRL ?_; first | refine uMv ?_ | refine uAs ?_ | refine uO ?_ | (refine isBin ?_; first | refine uP ?_) | (refine isLd ?_; first | refine uL1 ?_ ) | (refine isFa ?_; first | refine uP ?_) | refine uP ?_ | refine uBx ?_ | ((first | refine uGsD ?_ ?_ | refine uGs ?_ ?_) <;> intro hb)))
  all_goals exact zaw (by rfl) rfl ghasA ⟨_, rfl, rfl, trivial⟩
theorem zkJ (s : ByteArray) : CallsN Tryz.prog 142 [vS s] [] OneB := by
  cases hs : emptyS s with
  | true =>
    have hs' := zh9 _ _ hs
    (refine zam (Ty := Ty) zag Tryz.func142 rfl rfl rfl (by rfl) fun w0 S0 hp => ?_; simp only [argsF, List.zipIdx_cons, List.zipIdx_nil, List.map_cons, List.map_nil, Nat.zero_add])
    repeat' (first | refine zac ?_ | refine zaa ?_ | ((first | refine zab ?_ | refine zae ?_); (first | change W _ _ _ _ _ | change Exists _ )) | (refine isRL ?_; first | refine uMv ?_ | refine uAs ?_ | refine uO ?_ | (refine isBin ?_; first | refine uBb true ?_ ) | refine uP ?_ ) | refine wT fun _ => ?_ )
    all_goals exact zaw (by rfl) rfl ghasA ⟨_, rfl, rfl, trivial⟩
  | false =>
    have hs' := zh9 _ _ hs
    have hsz : s.data.toList.length = s.size := by rw [Array.length_toList]; rfl
    have hne : s.data.toList ≠ [] := fun h => by unfold emptyS at hs; rw [ByteArray.toList_eq, h] at hs; cases hs
    obtain ⟨b0, h0⟩ : ∃ b, s.data.toList[0]? = some b := ⟨_, List.getElem?_eq_getElem (List.length_pos_iff.2 hne)⟩
    by_cases hz : 40 < s.size
    · (refine zam (Ty := Ty) zag Tryz.func142 rfl rfl rfl (by rfl) fun w0 S0 hp => ?_; simp only [argsF, List.zipIdx_cons, List.zipIdx_nil, List.map_cons, List.map_nil, Nat.zero_add])
      repeat' (first | refine zac ?_ | refine zaa ?_ | ((first | refine zab ?_ | refine zae ?_); (first | change W _ _ _ _ _ | change Exists _ )) | (refine isRL ?_; first | refine uMv ?_ | refine uAs ?_ | refine uO ?_ | (refine isBin ?_; first | refine uBb true ?_ | refine uBb false ?_ ) | (refine isCl ?_; first | refine uP ?_) | refine uP ?_ ) | refine wT fun _ => ?_ )
      all_goals exact zaw (by rfl) rfl ghasA ⟨_, rfl, rfl, trivial⟩
    by_cases h1 : 48 ≤ b0.toNat ∧ b0.toNat ≤ 57
    · obtain ⟨h1, h2⟩ := h1
      (refine zam (Ty := Ty) zag Tryz.func142 rfl rfl rfl (by rfl) fun w0 S0 hp => ?_; simp only [argsF, List.zipIdx_cons, List.zipIdx_nil, List.map_cons, List.map_nil, Nat.zero_add])
      repeat' (first | refine zac ?_ | refine zaa ?_ | ((first | refine zab ?_ | refine zae ?_); (first | change W _ _ _ _ _ | change Exists _ )) | (refine isRL ?_; first | refine uMv ?_ | refine uAs ?_ | (refine isBin ?_; first | refine uBb true ?_ | refine uBb false ?_ ) | (refine isCl ?_; first | refine uP ?_) | refine uSx ?_ | refine uP ?_ ) | refine wT fun _ => ?_ )
      all_goals exact zaw (by rfl) rfl ghasA ⟨_, rfl, rfl, trivial⟩
    · (refine zam (Ty := Ty) zag Tryz.func142 rfl rfl rfl (by rfl) fun w0 S0 hp => ?_; simp only [argsF, List.zipIdx_cons, List.zipIdx_nil, List.map_cons, List.map_nil, Nat.zero_add])
      rcases (show b0.toNat < 48 ∨ 57 < b0.toNat by omega) with h2 | h2
      all_goals
        repeat' (first | refine zac ?_ | refine zaa ?_ | ((first | refine zab ?_ | refine zaf ?_ ); (first | change W _ _ _ _ _ )) | (refine isRL ?_; first | refine uMv ?_ | refine uAs ?_ | refine uO ?_ | (refine isBin ?_; first | refine uBb true ?_ | refine uBb false ?_ ) | (refine isCl ?_; first | refine uP ?_) | refine uSx ?_ | refine uP ?_ ) | refine zad ?_ | refine wF fun _ => ?_ )
        refine zaL (α := Nat) (fun k => [(0, vS s), (3, vI k)]) (fun _ => []) (fun k => k ≤ s.size) (fun k => s.size - k) 0 (Nat.zero_le _) subA subA ?_
        intro k hk
        by_cases hlt : k < s.size
        · obtain ⟨b, hb⟩ : ∃ b, s.data.toList[k]? = some b := ⟨_, List.getElem?_eq_getElem (by omega)⟩
          repeat' (first | refine zac ?_ | refine zaa ?_ | ((first | refine zab ?_ | refine zaf ?_ | refine zae ?_); (first | change W _ _ _ _ _ | change Exists _ )) | (refine isRL ?_; first | refine uMv ?_ | refine uAs ?_ | refine uO ?_ | (refine isBin ?_; first | refine uIb ?_ | refine uBb true ?_ | refine uP ?_) | (refine isCl ?_; first | refine uP ?_) | refine uSx ?_ | refine uP ?_ | ((first | refine uGsD ?_ ?_ | refine uGsN ?_ ?_ ) <;> intro hb)) | refine zad ?_ | refine wT fun _ => ?_ | refine wF fun _ => ?_ | ((first | refine wCsD ?_ ?_ ) <;> intro hb))
          all_goals first | exact zaw (by rfl) rfl ghasA ⟨_, rfl, rfl, trivial⟩ | exact ⟨k + 1, by omega, by omega, subA, subA⟩
        · repeat' (first | refine zac ?_ | refine zaa ?_ | ((first | refine zab ?_ | refine zaD ?_ | refine zae ?_); (first | change W _ _ _ _ _ | change EndN _ _ _ _ _ _ )) | (refine isRL ?_; first | refine uMv ?_ | refine uAs ?_ | (refine isBin ?_; first | refine uBb false ?_ ) | (refine isCl ?_; first | refine uP ?_) ) | refine wF fun _ => ?_ )
          exact zaw (by rfl) rfl ghasA ⟨_, rfl, rfl, trivial⟩
theorem zl6 (l : List ByteArray) (s : ByteArray) : CallsN Tryz.prog 114 [vL (l.map encS), vS s] [] OneB := by
  have hlm : (l.map encS).length = l.length := List.length_map _
  (refine zam (Ty := Ty) zag Tryz.func114 rfl rfl rfl (by rfl) fun w0 S0 hp => ?_; simp only [argsF, List.zipIdx_cons, List.zipIdx_nil, List.map_cons, List.map_nil, Nat.zero_add])
  repeat' (first | refine zac ?_ | refine zaa ?_ | ((first | refine zab ?_ ); (first | change W _ _ _ _ _ )) | (refine isRL ?_; first | refine uAs ?_ ) | refine zad ?_ )
  refine zaL (α := Nat) (fun k => [(0, vL (l.map encS)), (1, vS s), (5, vI k)]) (fun _ => []) (fun k => k ≤ l.length) (fun k => l.length - k) 0 (Nat.zero_le _) subA subA ?_
  intro k hk
  refine zbp (t := 0) (rows := l.map encS) rfl rfl fun hlim => ?_
  rw [hlm] at hlim
  by_cases hlt : k < l.length
  · obtain ⟨q, hq⟩ : ∃ q, l[k]? = some q := ⟨_, List.getElem?_eq_getElem hlt⟩
    repeat' (first | refine zac ?_ | refine zaa ?_ | ((first | refine zab ?_ | refine zaf ?_ | refine zae ?_); (first | change W _ _ _ _ _ | change Exists _ )) | (refine isRL ?_; first | refine uMv ?_ | refine uAs ?_ | (refine isBin ?_; first | refine uIb ?_ | refine uBb true ?_ | refine uP ?_) | (refine isLd ?_; first | refine uL2 ?_ ) | (refine isCl ?_; first | refine uP ?_) | refine uX ?_ ) | refine zad ?_ | refine wT fun _ => ?_ | ((first | refine wCs ?_ ?_) <;> intro hb))
    all_goals first | exact zaw (by rfl) rfl ghasA ⟨_, rfl, rfl, trivial⟩ | exact ⟨k + 1, by omega, by omega, subA, subA⟩
  · repeat' (first | refine zac ?_ | refine zaa ?_ | ((first | refine zab ?_ | refine zaD ?_ | refine zae ?_); (first | change W _ _ _ _ _ | change EndN _ _ _ _ _ _ )) | (refine isRL ?_; first | refine uMv ?_ | refine uAs ?_ | (refine isBin ?_; first | refine uBb false ?_ ) | (refine isCl ?_; first | refine uP ?_) ) | refine wF fun _ => ?_ )
    exact zaw (by rfl) rfl ghasA ⟨_, rfl, rfl, trivial⟩
inductive ShL : E → Prop
  | mk (e : E) (h1 : e.kind = 6 → e.kids.length = 1) (h2 : e.kind = 7 ∨ e.kind = 8 → e.kids.length = 2) (hk : ∀ k ∈ e.kids, ShL k) : ShL e
abbrev BoolP (p : Prop) : VV → Obs → Prop := fun y σ1 => ∃ i : Bool, y = vB i ∧ σ1 = [] ∧ (i = true → p)
theorem zkQ : ∀ (e : E) (n : Int), n ≤ 50 → CallsN Tryz.prog 113 [.dat (encE e), vI n] [] (BoolP (ShL e)) := E.ind fun e ih n hn => by
  have hlm : (e.kids.map encE).length = e.kids.length := List.length_map _
  have hb := zgJ e
  have hw := zkJ e.name
  by_cases h0 : n < 1
  · (refine zam (Ty := Ty) zag Tryz.func113 rfl rfl rfl (by rfl) fun w0 S0 hp => ?_; simp only [argsF, List.zipIdx_cons, List.zipIdx_nil, List.map_cons, List.map_nil, Nat.zero_add])
    repeat' (first | refine zac ?_ | refine zaa ?_ | ((first | refine zab ?_ | refine zae ?_); (first | change W _ _ _ _ _ | change Exists _ )) | (refine isRL ?_; first | refine uMv ?_ | refine uAs ?_ | refine uO ?_ | (refine isBin ?_; first | refine uBb true ?_ ) | refine uP ?_ | refine uBx ?_ ) | refine wT fun _ => ?_ )
    exact zaw (by rfl) rfl ghasA ⟨_, rfl, rfl, fun h => by cases h⟩
  by_cases hk : e.kind = 4 ∨ e.kind = 5 ∨ e.kind = 6 ∨ e.kind = 7 ∨ e.kind = 8
  rotate_left
  · obtain ⟨k4, k5, k6, k7, k8⟩ : ¬ e.kind = 4 ∧ ¬ e.kind = 5 ∧ ¬ e.kind = 6 ∧ ¬ e.kind = 7 ∧ ¬ e.kind = 8 := by omega
    have hll : ¬ ((e.kids.map encE).length : Int) = -1 := by omega
    (refine zam (Ty := Ty) zag Tryz.func113 rfl rfl rfl (by rfl) fun w0 S0 hp => ?_; simp only [argsF, List.zipIdx_cons, List.zipIdx_nil, List.map_cons, List.map_nil, Nat.zero_add])
    repeat' (first | refine zac ?_ | refine zaa ?_ | ((first | refine zab ?_ | refine zaf ?_ | refine zae ?_); (first | change W _ _ _ _ _ | change Exists _ )) | (refine isRL ?_; first | refine uNx hb (fun i _ => ?_) | refine uNx hw (fun i _ => ?_) | refine uMv ?_ | refine uAs ?_ | refine uO ?_ | (refine isBin ?_; first | refine uBb true ?_ | refine uBb false ?_ ) | (refine isLd ?_; first | refine uLb ?_ | refine uL1 ?_ ) | (refine isCl ?_; first | refine uP ?_) | (refine isFa ?_; first | refine uP ?_) | refine uP ?_ | refine uBx ?_ ) | refine zad ?_ | refine wT fun _ => ?_ | refine wF fun _ => ?_ | ((first | refine wCsNB ?_ ?_ ) <;> intro hb))
    all_goals exact zaw (by rfl) rfl ghasA ⟨_, rfl, rfl, fun h => by cases h⟩
  obtain ⟨kn, hkn⟩ : ∃ kn : Nat, (e.kind = 4 ∧ kn = 0) ∨ (e.kind = 5 ∧ kn = 0) ∨ (e.kind = 6 ∧ kn = 1) ∨ (e.kind = 7 ∧ kn = 2) ∨ (e.kind = 8 ∧ kn = 2) := by
    rcases hk with h | h | h | h | h
    · exact ⟨0, .inl ⟨h, rfl⟩⟩
    · exact ⟨0, .inr (.inl ⟨h, rfl⟩)⟩
    · exact ⟨1, .inr (.inr (.inl ⟨h, rfl⟩))⟩
    · exact ⟨2, .inr (.inr (.inr (.inl ⟨h, rfl⟩)))⟩
    · exact ⟨2, .inr (.inr (.inr (.inr ⟨h, rfl⟩)))⟩
  clear hk
  by_cases hl : e.kids.length = kn
  rotate_left
  · rcases hkn with ⟨hk, rfl⟩ | ⟨hk, rfl⟩ | ⟨hk, rfl⟩ | ⟨hk, rfl⟩ | ⟨hk, rfl⟩
    all_goals
      (refine zam (Ty := Ty) zag Tryz.func113 rfl rfl rfl (by rfl) fun w0 S0 hp => ?_; simp only [argsF, List.zipIdx_cons, List.zipIdx_nil, List.map_cons, List.map_nil, Nat.zero_add])
      repeat' (first | refine zac ?_ | refine zaa ?_ | ((first | refine zab ?_ | refine zaf ?_ | refine zae ?_); (first | change W _ _ _ _ _ | change Exists _ )) | (refine isRL ?_; first | refine uNx hb (fun i _ => ?_) | refine uNx hw (fun i _ => ?_) | refine uMv ?_ | refine uAs ?_ | refine uO ?_ | (refine isBin ?_; first | refine uBb true ?_ | refine uBb false ?_ ) | (refine isLd ?_; first | refine uLb ?_ | refine uL1 ?_ ) | (refine isCl ?_; first | refine uP ?_) | (refine isFa ?_; first | refine uP ?_) | refine uP ?_ | refine uBx ?_ ) | refine zad ?_ | refine wT fun _ => ?_ | refine wF fun _ => ?_ | ((first | refine wCsNB ?_ ?_ ) <;> intro hb))
      all_goals exact zaw (by rfl) rfl ghasA ⟨_, rfl, rfl, fun h => by cases h⟩
  have hsh : (∀ k ∈ e.kids, ShL k) → ShL e := fun h => .mk e (by omega) (by omega) h
  rcases hkn with ⟨hk, rfl⟩ | ⟨hk, rfl⟩ | ⟨hk, rfl⟩ | ⟨hk, rfl⟩ | ⟨hk, rfl⟩
  · (refine zam (Ty := Ty) zag Tryz.func113 rfl rfl rfl (by rfl) fun w0 S0 hp => ?_; simp only [argsF, List.zipIdx_cons, List.zipIdx_nil, List.map_cons, List.map_nil, Nat.zero_add])
    repeat' (first | refine zac ?_ | refine zaa ?_ | ((first | refine zab ?_ | refine zaf ?_ | refine zae ?_); (first | change W _ _ _ _ _ | change Exists _ )) | (refine isRL ?_; first | refine uNx hb (fun i _ => ?_) | refine uNx hw (fun i _ => ?_) | refine uMv ?_ | refine uAs ?_ | refine uO ?_ | (refine isBin ?_; first | refine uBb true ?_ | refine uBb false ?_ ) | (refine isLd ?_; first | refine uLb ?_ | refine uL1 ?_ ) | (refine isCl ?_; first | refine uP ?_) | (refine isFa ?_; first | refine uP ?_) | refine uP ?_ | refine uBx ?_ | ((first | refine uGsNB ?_ ?_ ) <;> intro hb)) | refine zad ?_ | refine wT fun _ => ?_ | refine wF fun _ => ?_ | ((first | refine wCsNB ?_ ?_ ) <;> intro hb))
    all_goals first | exact zaw (by rfl) rfl ghasA ⟨_, rfl, rfl, fun h => by cases h⟩ | skip
    all_goals
      refine zaL (α := Nat) (fun i => [(1, vI n), (2, .one (.po 2 0)), (5, vI 0), (7, vI i)]) (fun _ => [(2, .box 31 (encE e))]) (fun i => i ≤ 0 ∧ ∀ (j : Nat) (q : E), j < i → e.kids[j]? = some q → ShL q) (fun i => 0 - i) 0 ⟨Nat.zero_le _, fun j q hj => absurd hj (by omega)⟩ subA subA ?_
      intro i ⟨hi, hok⟩
      by_cases hlt : i < 0
      · obtain ⟨q, hq⟩ : ∃ q, e.kids[i]? = some q := ⟨_, List.getElem?_eq_getElem (by omega)⟩
        have hQ := ih q (List.mem_of_getElem? hq) (n - 1) (by omega)
        repeat' (first | refine zac ?_ | refine zaa ?_ | ((first | refine zab ?_ | refine zaf ?_ | refine zae ?_); (first | change W _ _ _ _ _ | change Exists _ )) | (refine isRL ?_; first | refine uNx hQ (fun b hbq => ?_) | refine uMv ?_ | refine uAs ?_ | (refine isBin ?_; first | refine uIb ?_ | refine uBb true ?_ ) | (refine isLd ?_; first | refine uLp ?_ | refine uL1 ?_ ) | (refine isFa ?_; first | refine uP ?_) | refine uX ?_ | refine uP ?_ ) | refine zad ?_ | refine wT fun _ => ?_ | ((first | refine wCsNB ?_ ?_ ) <;> intro hb))
        all_goals first | exact zaw (by rfl) rfl ghasA ⟨_, rfl, rfl, fun h => by cases h⟩ | skip
        exact ⟨i + 1, by omega, ⟨by omega, fun j q' hj hq' => by
          rcases Nat.lt_succ_iff_lt_or_eq.1 hj with h | h
          · exact hok j q' h hq'
          · subst h; rw [hq] at hq'; injection hq' with hq'; rw [← hq']; exact hbq hb⟩, subA, subA⟩
      · repeat' (first | refine zac ?_ | refine zaa ?_ | ((first | refine zab ?_ | refine zaD ?_ | refine zae ?_); (first | change W _ _ _ _ _ | change EndN _ _ _ _ _ _ )) | (refine isRL ?_; first | refine uMv ?_ | refine uAs ?_ | (refine isBin ?_; first | refine uBb false ?_ ) ) | refine wF fun _ => ?_ )
        exact zaw (by rfl) rfl ghasA ⟨_, rfl, rfl, fun _ => hsh fun k hk => by
          obtain ⟨j, hj⟩ := List.mem_iff_getElem?.1 hk
          exact hok j k (by have := (List.getElem?_eq_some_iff.1 hj).1; omega) hj⟩
  · (refine zam (Ty := Ty) zag Tryz.func113 rfl rfl rfl (by rfl) fun w0 S0 hp => ?_; simp only [argsF, List.zipIdx_cons, List.zipIdx_nil, List.map_cons, List.map_nil, Nat.zero_add])
    repeat' (first | refine zac ?_ | refine zaa ?_ | ((first | refine zab ?_ | refine zaf ?_ | refine zae ?_); (first | change W _ _ _ _ _ | change Exists _ )) | (refine isRL ?_; first | refine uNx hb (fun i _ => ?_) | refine uNx hw (fun i _ => ?_) | refine uMv ?_ | refine uAs ?_ | refine uO ?_ | (refine isBin ?_; first | refine uBb true ?_ | refine uBb false ?_ | refine uP ?_) | (refine isLd ?_; first | refine uLb ?_ | refine uL1 ?_ ) | (refine isCl ?_; first | refine uP ?_) | (refine isFa ?_; first | refine uP ?_) | refine uP ?_ | refine uBx ?_ ) | refine zad ?_ | refine wT fun _ => ?_ | refine wF fun _ => ?_ | ((first | refine wCsNB ?_ ?_ ) <;> intro hb))
    all_goals first | exact zaw (by rfl) rfl ghasA ⟨_, rfl, rfl, fun h => by cases h⟩ | skip
    all_goals
      refine zaL (α := Nat) (fun i => [(1, vI n), (2, .one (.po 2 0)), (5, vI 0), (7, vI i)]) (fun _ => [(2, .box 31 (encE e))]) (fun i => i ≤ 0 ∧ ∀ (j : Nat) (q : E), j < i → e.kids[j]? = some q → ShL q) (fun i => 0 - i) 0 ⟨Nat.zero_le _, fun j q hj => absurd hj (by omega)⟩ subA subA ?_
      intro i ⟨hi, hok⟩
      by_cases hlt : i < 0
      · obtain ⟨q, hq⟩ : ∃ q, e.kids[i]? = some q := ⟨_, List.getElem?_eq_getElem (by omega)⟩
        have hQ := ih q (List.mem_of_getElem? hq) (n - 1) (by omega)
        repeat' (first | refine zac ?_ | refine zaa ?_ | ((first | refine zab ?_ | refine zaf ?_ | refine zae ?_); (first | change W _ _ _ _ _ | change Exists _ )) | (refine isRL ?_; first | refine uNx hQ (fun b hbq => ?_) | refine uMv ?_ | refine uAs ?_ | (refine isBin ?_; first | refine uIb ?_ | refine uBb true ?_ ) | (refine isLd ?_; first | refine uLp ?_ | refine uL1 ?_ ) | (refine isFa ?_; first | refine uP ?_) | refine uX ?_ | refine uP ?_ ) | refine zad ?_ | refine wT fun _ => ?_ | ((first | refine wCsNB ?_ ?_ ) <;> intro hb))
        all_goals first | exact zaw (by rfl) rfl ghasA ⟨_, rfl, rfl, fun h => by cases h⟩ | skip
        exact ⟨i + 1, by omega, ⟨by omega, fun j q' hj hq' => by
          rcases Nat.lt_succ_iff_lt_or_eq.1 hj with h | h
          · exact hok j q' h hq'
          · subst h; rw [hq] at hq'; injection hq' with hq'; rw [← hq']; exact hbq hb⟩, subA, subA⟩
      · repeat' (first | refine zac ?_ | refine zaa ?_ | ((first | refine zab ?_ | refine zaD ?_ | refine zae ?_); (first | change W _ _ _ _ _ | change EndN _ _ _ _ _ _ )) | (refine isRL ?_; first | refine uMv ?_ | refine uAs ?_ | (refine isBin ?_; first | refine uBb false ?_ ) ) | refine wF fun _ => ?_ )
        exact zaw (by rfl) rfl ghasA ⟨_, rfl, rfl, fun _ => hsh fun k hk => by
          obtain ⟨j, hj⟩ := List.mem_iff_getElem?.1 hk
          exact hok j k (by have := (List.getElem?_eq_some_iff.1 hj).1; omega) hj⟩
  · (refine zam (Ty := Ty) zag Tryz.func113 rfl rfl rfl (by rfl) fun w0 S0 hp => ?_; simp only [argsF, List.zipIdx_cons, List.zipIdx_nil, List.map_cons, List.map_nil, Nat.zero_add])
    repeat' (first | refine zac ?_ | refine zaa ?_ | ((first | refine zab ?_ | refine zaf ?_ | refine zae ?_); (first | change W _ _ _ _ _ | change Exists _ )) | (refine isRL ?_; first | refine uNx hb (fun i _ => ?_) | refine uNx hw (fun i _ => ?_) | refine uMv ?_ | refine uAs ?_ | refine uO ?_ | (refine isBin ?_; first | refine uBb true ?_ | refine uBb false ?_ | refine uP ?_) | (refine isLd ?_; first | refine uLb ?_ | refine uL1 ?_ ) | (refine isCl ?_; first | refine uP ?_) | (refine isFa ?_; first | refine uP ?_) | refine uP ?_ | refine uBx ?_ ) | refine zad ?_ | refine wT fun _ => ?_ | refine wF fun _ => ?_ | ((first | refine wCsNB ?_ ?_ ) <;> intro hb))
    all_goals first | exact zaw (by rfl) rfl ghasA ⟨_, rfl, rfl, fun h => by cases h⟩ | skip
    all_goals
      refine zaL (α := Nat) (fun i => [(1, vI n), (2, .one (.po 2 0)), (5, vI 1), (7, vI i)]) (fun _ => [(2, .box 31 (encE e))]) (fun i => i ≤ 1 ∧ ∀ (j : Nat) (q : E), j < i → e.kids[j]? = some q → ShL q) (fun i => 1 - i) 0 ⟨Nat.zero_le _, fun j q hj => absurd hj (by omega)⟩ subA subA ?_
      intro i ⟨hi, hok⟩
      by_cases hlt : i < 1
      · obtain ⟨q, hq⟩ : ∃ q, e.kids[i]? = some q := ⟨_, List.getElem?_eq_getElem (by omega)⟩
        have hQ := ih q (List.mem_of_getElem? hq) (n - 1) (by omega)
        repeat' (first | refine zac ?_ | refine zaa ?_ | ((first | refine zab ?_ | refine zaf ?_ | refine zae ?_); (first | change W _ _ _ _ _ | change Exists _ )) | (refine isRL ?_; first | refine uNx hQ (fun b hbq => ?_) | refine uMv ?_ | refine uAs ?_ | (refine isBin ?_; first | refine uIb ?_ | refine uBb true ?_ ) | (refine isLd ?_; first | refine uLp ?_ | refine uL1 ?_ ) | (refine isFa ?_; first | refine uP ?_) | refine uX ?_ | refine uP ?_ ) | refine zad ?_ | refine wT fun _ => ?_ | ((first | refine wCsNB ?_ ?_ ) <;> intro hb))
        all_goals first | exact zaw (by rfl) rfl ghasA ⟨_, rfl, rfl, fun h => by cases h⟩ | skip
        exact ⟨i + 1, by omega, ⟨by omega, fun j q' hj hq' => by
          rcases Nat.lt_succ_iff_lt_or_eq.1 hj with h | h
          · exact hok j q' h hq'
          · subst h; rw [hq] at hq'; injection hq' with hq'; rw [← hq']; exact hbq hb⟩, subA, subA⟩
      · repeat' (first | refine zac ?_ | refine zaa ?_ | ((first | refine zab ?_ | refine zaD ?_ | refine zae ?_); (first | change W _ _ _ _ _ | change EndN _ _ _ _ _ _ )) | (refine isRL ?_; first | refine uMv ?_ | refine uAs ?_ | (refine isBin ?_; first | refine uBb false ?_ ) ) | refine wF fun _ => ?_ )
        exact zaw (by rfl) rfl ghasA ⟨_, rfl, rfl, fun _ => hsh fun k hk => by
          obtain ⟨j, hj⟩ := List.mem_iff_getElem?.1 hk
          exact hok j k (by have := (List.getElem?_eq_some_iff.1 hj).1; omega) hj⟩
  · (refine zam (Ty := Ty) zag Tryz.func113 rfl rfl rfl (by rfl) fun w0 S0 hp => ?_; simp only [argsF, List.zipIdx_cons, List.zipIdx_nil, List.map_cons, List.map_nil, Nat.zero_add])
    repeat' (first | refine zac ?_ | refine zaa ?_ | ((first | refine zab ?_ | refine zaf ?_ | refine zae ?_); (first | change W _ _ _ _ _ | change Exists _ )) | (refine isRL ?_; first | refine uNx hb (fun i _ => ?_) | refine uNx hw (fun i _ => ?_) | refine uMv ?_ | refine uAs ?_ | refine uO ?_ | (refine isBin ?_; first | refine uBb true ?_ | refine uBb false ?_ | refine uP ?_) | (refine isLd ?_; first | refine uLb ?_ | refine uL1 ?_ ) | (refine isCl ?_; first | refine uP ?_) | (refine isFa ?_; first | refine uP ?_) | refine uP ?_ | refine uBx ?_ ) | refine zad ?_ | refine wT fun _ => ?_ | refine wF fun _ => ?_ | ((first | refine wCsNB ?_ ?_ ) <;> intro hb))
    all_goals first | exact zaw (by rfl) rfl ghasA ⟨_, rfl, rfl, fun h => by cases h⟩ | skip
    all_goals
      refine zaL (α := Nat) (fun i => [(1, vI n), (2, .one (.po 2 0)), (5, vI 2), (7, vI i)]) (fun _ => [(2, .box 31 (encE e))]) (fun i => i ≤ 2 ∧ ∀ (j : Nat) (q : E), j < i → e.kids[j]? = some q → ShL q) (fun i => 2 - i) 0 ⟨Nat.zero_le _, fun j q hj => absurd hj (by omega)⟩ subA subA ?_
      intro i ⟨hi, hok⟩
      by_cases hlt : i < 2
      · obtain ⟨q, hq⟩ : ∃ q, e.kids[i]? = some q := ⟨_, List.getElem?_eq_getElem (by omega)⟩
        have hQ := ih q (List.mem_of_getElem? hq) (n - 1) (by omega)
        repeat' (first | refine zac ?_ | refine zaa ?_ | ((first | refine zab ?_ | refine zaf ?_ | refine zae ?_); (first | change W _ _ _ _ _ | change Exists _ )) | (refine isRL ?_; first | refine uNx hQ (fun b hbq => ?_) | refine uMv ?_ | refine uAs ?_ | (refine isBin ?_; first | refine uIb ?_ | refine uBb true ?_ ) | (refine isLd ?_; first | refine uLp ?_ | refine uL1 ?_ ) | (refine isFa ?_; first | refine uP ?_) | refine uX ?_ | refine uP ?_ ) | refine zad ?_ | refine wT fun _ => ?_ | ((first | refine wCsNB ?_ ?_ ) <;> intro hb))
        all_goals first | exact zaw (by rfl) rfl ghasA ⟨_, rfl, rfl, fun h => by cases h⟩ | skip
        exact ⟨i + 1, by omega, ⟨by omega, fun j q' hj hq' => by
          rcases Nat.lt_succ_iff_lt_or_eq.1 hj with h | h
          · exact hok j q' h hq'
          · subst h; rw [hq] at hq'; injection hq' with hq'; rw [← hq']; exact hbq hb⟩, subA, subA⟩
      · repeat' (first | refine zac ?_ | refine zaa ?_ | ((first | refine zab ?_ | refine zaD ?_ | refine zae ?_); (first | change W _ _ _ _ _ | change EndN _ _ _ _ _ _ )) | (refine isRL ?_; first | refine uMv ?_ | refine uAs ?_ | (refine isBin ?_; first | refine uBb false ?_ ) ) | refine wF fun _ => ?_ )
        exact zaw (by rfl) rfl ghasA ⟨_, rfl, rfl, fun _ => hsh fun k hk => by
          obtain ⟨j, hj⟩ := List.mem_iff_getElem?.1 hk
          exact hok j k (by have := (List.getElem?_eq_some_iff.1 hj).1; omega) hj⟩
  · (refine zam (Ty := Ty) zag Tryz.func113 rfl rfl rfl (by rfl) fun w0 S0 hp => ?_; simp only [argsF, List.zipIdx_cons, List.zipIdx_nil, List.map_cons, List.map_nil, Nat.zero_add])
    repeat' (first | refine zac ?_ | refine zaa ?_ | ((first | refine zab ?_ | refine zaf ?_ | refine zae ?_); (first | change W _ _ _ _ _ | change Exists _ )) | (refine isRL ?_; first | refine uNx hb (fun i _ => ?_) | refine uNx hw (fun i _ => ?_) | refine uMv ?_ | refine uAs ?_ | refine uO ?_ | (refine isBin ?_; first | refine uBb true ?_ | refine uBb false ?_ | refine uP ?_) | (refine isLd ?_; first | refine uLb ?_ | refine uL1 ?_ ) | (refine isCl ?_; first | refine uP ?_) | (refine isFa ?_; first | refine uP ?_) | refine uP ?_ | refine uBx ?_ ) | refine zad ?_ | refine wT fun _ => ?_ | refine wF fun _ => ?_ | ((first | refine wCsNB ?_ ?_ ) <;> intro hb))
    all_goals first | exact zaw (by rfl) rfl ghasA ⟨_, rfl, rfl, fun h => by cases h⟩ | skip
    all_goals
      refine zaL (α := Nat) (fun i => [(1, vI n), (2, .one (.po 2 0)), (5, vI 2), (7, vI i)]) (fun _ => [(2, .box 31 (encE e))]) (fun i => i ≤ 2 ∧ ∀ (j : Nat) (q : E), j < i → e.kids[j]? = some q → ShL q) (fun i => 2 - i) 0 ⟨Nat.zero_le _, fun j q hj => absurd hj (by omega)⟩ subA subA ?_
      intro i ⟨hi, hok⟩
      by_cases hlt : i < 2
      · obtain ⟨q, hq⟩ : ∃ q, e.kids[i]? = some q := ⟨_, List.getElem?_eq_getElem (by omega)⟩
        have hQ := ih q (List.mem_of_getElem? hq) (n - 1) (by omega)
        repeat' (first | refine zac ?_ | refine zaa ?_ | ((first | refine zab ?_ | refine zaf ?_ | refine zae ?_); (first | change W _ _ _ _ _ | change Exists _ )) | (refine isRL ?_; first | refine uNx hQ (fun b hbq => ?_) | refine uMv ?_ | refine uAs ?_ | (refine isBin ?_; first | refine uIb ?_ | refine uBb true ?_ ) | (refine isLd ?_; first | refine uLp ?_ | refine uL1 ?_ ) | (refine isFa ?_; first | refine uP ?_) | refine uX ?_ | refine uP ?_ ) | refine zad ?_ | refine wT fun _ => ?_ | ((first | refine wCsNB ?_ ?_ ) <;> intro hb))
        all_goals first | exact zaw (by rfl) rfl ghasA ⟨_, rfl, rfl, fun h => by cases h⟩ | skip
        exact ⟨i + 1, by omega, ⟨by omega, fun j q' hj hq' => by
          rcases Nat.lt_succ_iff_lt_or_eq.1 hj with h | h
          · exact hok j q' h hq'
          · subst h; rw [hq] at hq'; injection hq' with hq'; rw [← hq']; exact hbq hb⟩, subA, subA⟩
      · repeat' (first | refine zac ?_ | refine zaa ?_ | ((first | refine zab ?_ | refine zaD ?_ | refine zae ?_); (first | change W _ _ _ _ _ | change EndN _ _ _ _ _ _ )) | (refine isRL ?_; first | refine uMv ?_ | refine uAs ?_ | (refine isBin ?_; first | refine uBb false ?_ ) ) | refine wF fun _ => ?_ )
        exact zaw (by rfl) rfl ghasA ⟨_, rfl, rfl, fun _ => hsh fun k hk => by
          obtain ⟨j, hj⟩ := List.mem_iff_getElem?.1 hk
          exact hok j k (by have := (List.getElem?_eq_some_iff.1 hj).1; omega) hj⟩
theorem zjD (l : List ByteArray) : ∀ (e : E), ShL e → CallsN Tryz.prog 94 [vL (l.map encS), .dat (encE e)] [] OneB := E.ind fun e ih hs => by
  have hlm : (l.map encS).length = l.length := List.length_map _
  have hI := zl6 l e.name
  obtain ⟨_, h1, h2, hk⟩ := hs
  by_cases k6 : e.kind = 6
  · have hl := h1 k6
    obtain ⟨q, hq⟩ : ∃ q, e.kids[0]? = some q := ⟨_, List.getElem?_eq_getElem (by omega)⟩
    have hQ := ih q (List.mem_of_getElem? hq) (hk q (List.mem_of_getElem? hq))
    (refine zam (Ty := Ty) zag Tryz.func94 rfl rfl rfl (by rfl) fun w0 S0 hp => ?_; simp only [argsF, List.zipIdx_cons, List.zipIdx_nil, List.map_cons, List.map_nil, Nat.zero_add])
    repeat' (first | refine zac ?_ | refine zaa ?_ | ((first | refine zab ?_ | refine zae ?_); (first | change W _ _ _ _ _ | change Exists _ )) | (refine isRL ?_; first | refine uNx hQ (fun b _ => ?_) | refine uMv ?_ | refine uAs ?_ | (refine isBin ?_; first | refine uBb true ?_ | refine uBb false ?_ ) | (refine isLd ?_; first | refine uLp ?_ | refine uL1 ?_ ) | (refine isFa ?_; first | refine uP ?_) | refine uX ?_ | refine uP ?_ | refine uBx ?_ ) | refine zad ?_ | refine wT fun _ => ?_ | refine wF fun _ => ?_ )
    all_goals exact zaw (by rfl) rfl ghasA ⟨_, rfl, rfl, trivial⟩
  by_cases k78 : e.kind = 7 ∨ e.kind = 8
  · have hl := h2 k78
    obtain ⟨q, hq⟩ : ∃ q, e.kids[0]? = some q := ⟨_, List.getElem?_eq_getElem (by omega)⟩
    obtain ⟨r, hr⟩ : ∃ q, e.kids[1]? = some q := ⟨_, List.getElem?_eq_getElem (by omega)⟩
    have hQ := ih q (List.mem_of_getElem? hq) (hk q (List.mem_of_getElem? hq))
    have hR := ih r (List.mem_of_getElem? hr) (hk r (List.mem_of_getElem? hr))
    rcases k78 with k7 | k8
    all_goals
      (refine zam (Ty := Ty) zag Tryz.func94 rfl rfl rfl (by rfl) fun w0 S0 hp => ?_; simp only [argsF, List.zipIdx_cons, List.zipIdx_nil, List.map_cons, List.map_nil, Nat.zero_add])
      repeat' (first | refine zac ?_ | refine zaa ?_ | ((first | refine zab ?_ | refine zae ?_); (first | change W _ _ _ _ _ | change Exists _ )) | (refine isRL ?_; first | refine uNx hQ (fun b _ => ?_) | refine uNx hR (fun b _ => ?_) | refine uMv ?_ | refine uAs ?_ | refine uO ?_ | (refine isBin ?_; first | refine uBb true ?_ | refine uBb false ?_ ) | (refine isLd ?_; first | refine uLp ?_ | refine uL1 ?_ ) | (refine isFa ?_; first | refine uP ?_) | refine uX ?_ | refine uP ?_ | refine uBx ?_ | ((first | refine uGs ?_ ?_) <;> intro hb)) | refine zad ?_ | refine wT fun _ => ?_ | refine wF fun _ => ?_ )
      all_goals exact zaw (by rfl) rfl ghasA ⟨_, rfl, rfl, trivial⟩
  obtain ⟨k7, k8⟩ : ¬ e.kind = 7 ∧ ¬ e.kind = 8 := by omega
  (refine zam (Ty := Ty) zag Tryz.func94 rfl rfl rfl (by rfl) fun w0 S0 hp => ?_; simp only [argsF, List.zipIdx_cons, List.zipIdx_nil, List.map_cons, List.map_nil, Nat.zero_add])
  repeat' (first | refine zac ?_ | refine zaa ?_ | ((first | refine zab ?_ | refine zaf ?_ | refine zae ?_); (first | change W _ _ _ _ _ | change EndN _ _ _ _ _ _ | change Exists _ )) | (refine isRL ?_; first | refine uNx hI (fun b _ => ?_) | refine uMv ?_ | refine uAs ?_ | (refine isBin ?_; first | refine uBb false ?_ | refine uP ?_) | (refine isLd ?_; first | refine uL1 ?_ ) | (refine isCl ?_; first | refine uP ?_) | (refine isFa ?_; first | refine uP ?_) | refine uBx ?_ ) | refine zad ?_ | refine wF fun _ => ?_ | ((first | refine wCsD ?_ ?_ ) <;> intro hb))
  all_goals exact zaw (by rfl) rfl ghasA ⟨_, rfl, rfl, trivial⟩
theorem zjf (e : E) : CallsN Tryz.prog 93 [.dat (encE e)] [] (BoolP (ShL e)) := by
  have hlm : (e.kids.map encE).length = e.kids.length := List.length_map _
  have hT := zkQ e 50 (by decide)
  have hb := zgJ e
  by_cases h0 : e.kind = 0
  · by_cases hk : e.kids = []
    · have hsh : ShL e := .mk e (by omega) (by omega) fun k hkk => by rw [hk] at hkk; cases hkk
      (refine zam (Ty := Ty) zag Tryz.func93 rfl rfl rfl (by rfl) fun w0 S0 hp => ?_; simp only [argsF, List.zipIdx_cons, List.zipIdx_nil, List.map_cons, List.map_nil, Nat.zero_add])
      repeat' (first | refine zac ?_ | refine zaa ?_ | ((first | refine zab ?_ | refine zae ?_); (first | change W _ _ _ _ _ | change Exists _ )) | (refine isRL ?_; first | refine uNx hb (fun b _ => ?_) | refine uMv ?_ | refine uAs ?_ | refine uO ?_ | (refine isBin ?_; first | refine uBb true ?_ | refine uP ?_) | (refine isLd ?_; first | refine uLb ?_ | refine uL1 ?_ ) | (refine isCl ?_; first | refine uP ?_) | (refine isFa ?_; first | refine uP ?_) | refine uP ?_ | refine uBx ?_ | ((first | refine uGs ?_ ?_) <;> intro hb)) | refine wT fun _ => ?_ )
      all_goals exact zaw (by rfl) rfl ghasA ⟨_, rfl, rfl, fun _ => hsh⟩
    · have hne : ¬ e.kids.length = 0 := fun h => hk (List.eq_nil_of_length_eq_zero h)
      (refine zam (Ty := Ty) zag Tryz.func93 rfl rfl rfl (by rfl) fun w0 S0 hp => ?_; simp only [argsF, List.zipIdx_cons, List.zipIdx_nil, List.map_cons, List.map_nil, Nat.zero_add])
      repeat' (first | refine zac ?_ | refine zaa ?_ | ((first | refine zab ?_ | refine zae ?_); (first | change W _ _ _ _ _ | change Exists _ )) | (refine isRL ?_; first | refine uNx hb (fun b _ => ?_) | refine uMv ?_ | refine uAs ?_ | refine uO ?_ | (refine isBin ?_; first | refine uBb true ?_ | refine uBb false ?_ | refine uP ?_) | (refine isLd ?_; first | refine uLb ?_ | refine uL1 ?_ ) | (refine isCl ?_; first | refine uP ?_) | (refine isFa ?_; first | refine uP ?_) | refine uP ?_ | refine uBx ?_ | ((first | refine uGs ?_ ?_) <;> intro hb)) | refine wT fun _ => ?_ )
      all_goals exact zaw (by rfl) rfl ghasA ⟨_, rfl, rfl, fun h => by first | cases h ⟩
  · (refine zam (Ty := Ty) zag Tryz.func93 rfl rfl rfl (by rfl) fun w0 S0 hp => ?_; simp only [argsF, List.zipIdx_cons, List.zipIdx_nil, List.map_cons, List.map_nil, Nat.zero_add])
    repeat' (first | refine zac ?_ | refine zaa ?_ | ((first | refine zab ?_ | refine zaf ?_ | refine zae ?_); (first | change W _ _ _ _ _ | change EndN _ _ _ _ _ _ )) | (refine isRL ?_; first | refine uNx hT (fun b hbq => ?_) | refine uAs ?_ | (refine isBin ?_; first | refine uBb false ?_ ) | (refine isLd ?_; first | refine uLb ?_ | refine uL1 ?_ ) | (refine isFa ?_; first | refine uP ?_) | refine uBx ?_ ) | refine wF fun _ => ?_ )
    all_goals exact zaw (by rfl) rfl ghasA ⟨_, rfl, rfl, hbq⟩
theorem zk3 (l : List ByteArray) (e : E) : CallsN Tryz.prog 65 [vL (l.map encS), .dat (encE e)] [] OneB := by
  have hR := zjf e
  have hH := zjD l e
  (refine zam (Ty := Ty) zag Tryz.func65 rfl rfl rfl (by rfl) fun w0 S0 hp => ?_; simp only [argsF, List.zipIdx_cons, List.zipIdx_nil, List.map_cons, List.map_nil, Nat.zero_add])
  repeat' (first | refine zac ?_ | refine zaa ?_ | ((first | refine zab ?_ | refine zaf ?_ | refine zae ?_); (first | change W _ _ _ _ _ | change EndN _ _ _ _ _ _ | change Exists _ )) | (refine isRL ?_; first | refine uNx hR (fun b hbq => ?_) | refine uNx (hH (hbq (by assumption))) (fun b _ => ?_) | refine uMv ?_ | refine uAs ?_ | (refine isLd ?_; first | refine uLb ?_ ) | refine uP ?_ | refine uBx ?_ ) | ((first | refine wCsNB ?_ ?_ ) <;> intro hb))
  all_goals exact zaw (by rfl) rfl ghasA ⟨_, rfl, rfl, trivial⟩
end Go.Proofs.YtjhkehloipmjfaaGreat
