/- Walks: graph.rising, in plain words. -/
import Derived.Test.YtjhkehloipmjfaaG1
import Derived.Test.YtjhkehloipmjfaaVD
import Derived.Test.YtjhkehloipmjfaaVE
import Derived.Test.YtjhkehloipmjfaaMV
import Derived.Test.YtjhkehloipmjfaaMA
namespace Go.Proofs.Ytjhkehloipmjfaa
open Go.RowKit
theorem word_v (s : ByteArray) : CallsV Try.prog 108 [.one (.d (.v (.string s)))] (.val (vB (word s))) :=
  callsV_bool (enters Try.func108 rfl rfl) fun S w vs ha => by
    obtain ⟨v, rfl, h1⟩ := args1 ha
    rw [pv_v h1]
    exact word_calls s w
/-- element i of a rising list of words -/
def okAt (l : List ByteArray) (i : Nat) : Bool := match l[i]? with
  | none => true
  | some s => word s && (i == 0 || match l[i - 1]? with
    | none => true
    | some p => Op.bytesLess p.toList s.toList)
def risingL (l : List ByteArray) : Bool := (List.range l.length).all (okAt l)
theorem rising_false {l : List ByteArray} {i : Nat} (hi : i < l.length) (h : okAt l i = false) : risingL l = false := by
  unfold risingL
  rw [List.all_eq_false]
  exact ⟨i, List.mem_range.2 hi, by simp [h]⟩
theorem rising_true {l : List ByteArray} (h : ∀ i, i < l.length → okAt l i = true) : risingL l = true := by
  unfold risingL
  rw [List.all_eq_true]
  exact fun i hi => h i (List.mem_range.1 hi)
set_option maxRecDepth 100000 in
set_option maxHeartbeats 4000000 in
theorem rising_v (l : List ByteArray) : CallsV Try.prog 109 [vL (l.map encS)] (.val (vB (risingL l))) := by
  have hlm : (l.map encS).length = l.length := List.length_map _
  (refine callsV_of_W (Ty := Ty) ty_ok Try.func109 rfl rfl rfl fun w0 S0 => ?_; simp only [argsF, List.zipIdx_cons, List.zipIdx_nil, List.map_cons, List.map_nil, Nat.zero_add])
  repeat' (first | refine W_seq ?_ | refine W_region ?_ | ((first | refine RL_nil ?_ | refine W_skip ?_ | refine W_exit ?_ | refine W_ret ?_); (first | change W _ _ _ _ _ | change EndQ _ _ _ _ _ _ | change Exists _ | skip)) | (refine isRL ?_; first | refine uMv ?_ | refine uAs ?_ | refine uO ?_ | (refine isBin ?_; first | refine uIb ?_ | refine uCat ?_ | refine uBb true ?_ | refine uBb false ?_ | refine uP ?_) | (refine isLd ?_; first | refine uLp ?_ | refine uLb ?_ | refine uL1 ?_ | refine uL2 ?_ | refine uP ?_) | (refine isCl ?_; first | refine uP ?_) | refine uX ?_ | refine uBu true ?_ | refine uBu false ?_ | refine uP ?_ | ((first | refine uGsD ?_ ?_ | refine uGsE ?_ ?_ | refine uGsN ?_ ?_ | refine uGsND ?_ ?_ | refine uGsNE ?_ ?_ | refine uGsNB ?_ ?_ | refine uGs ?_ ?_) <;> intro hb)) | refine W_block ?_ | refine wT fun _ => ?_ | refine wF fun _ => ?_ | ((first | refine wCsD ?_ ?_ | refine wCsE ?_ ?_ | refine wCsN ?_ ?_ | refine wCsND ?_ ?_ | refine wCsNE ?_ ?_ | refine wCsNB ?_ ?_ | refine wCs ?_ ?_) <;> intro hb))
  refine W_for (α := Nat) (fun i => [(0, vL (l.map encS)), (5, vL (l.map encS)), (6, vI ((l.map encS).length : Int)), (7, vI i)]) (fun _ => []) (fun i => i ≤ l.length ∧ ∀ j, j < i → okAt l j = true) (fun i => l.length - i) 0 ⟨Nat.zero_le _, fun j hj => absurd hj (Nat.not_lt_zero _)⟩ (by (repeat (first | exact sub_nil _ | refine sub_cons (by rfl) ?_))) (by (repeat (first | exact sub_nil _ | refine sub_cons (by rfl) ?_))) ?_
  intro k ⟨hk, hok⟩
  refine W_limV (t := 0) (rows := l.map encS) rfl rfl fun hlim => ?_
  rw [hlm] at hlim
  by_cases hlt : k < l.length
  · obtain ⟨s, hs⟩ : ∃ s, l[k]? = some s := ⟨_, List.getElem?_eq_getElem hlt⟩
    have hW := word_v s
    cases hw : word s with
    | false =>
      rw [hw] at hW
      have hf : okAt l k = false := by unfold okAt; rw [hs]; simp [hw]
      repeat' (first | refine W_seq ?_ | refine W_region ?_ | ((first | refine RL_nil ?_ | refine W_skip ?_ | refine W_exit ?_ | refine W_ret ?_); (first | change W _ _ _ _ _ | change EndQ _ _ _ _ _ _ | change Exists _ | skip)) | (refine isRL ?_; first | refine uMv ?_ | refine uAs ?_ | refine uO ?_ | (refine isBin ?_; first | refine uIb ?_ | refine uCat ?_ | refine uBb true ?_ | refine uBb false ?_ | refine uP ?_) | (refine isLd ?_; first | refine uLp ?_ | refine uLb ?_ | refine uL1 ?_ | refine uL2 ?_ | refine uP ?_) | (refine isCl ?_; first | refine uC (hW) ?_ | refine uP ?_) | refine uX ?_ | refine uBu true ?_ | refine uBu false ?_ | refine uP ?_ | ((first | refine uGsD ?_ ?_ | refine uGsE ?_ ?_ | refine uGsN ?_ ?_ | refine uGsND ?_ ?_ | refine uGsNE ?_ ?_ | refine uGsNB ?_ ?_ | refine uGs ?_ ?_) <;> intro hb)) | refine W_block ?_ | refine wT fun _ => ?_ | refine wF fun _ => ?_ | ((first | refine wCsD ?_ ?_ | refine wCsE ?_ ?_ | refine wCsN ?_ ?_ | refine wCsND ?_ ?_ | refine wCsNE ?_ ?_ | refine wCsNB ?_ ?_ | refine wCs ?_ ?_) <;> intro hb))
      exact end_r (by rfl) (by rw [rising_false hlt hf]; rfl)
    | true =>
      rw [hw] at hW
      by_cases k0 : k = 0
      · have ht : okAt l k = true := by unfold okAt; rw [hs]; simp [hw, k0]
        repeat' (first | refine W_seq ?_ | refine W_region ?_ | ((first | refine RL_nil ?_ | refine W_skip ?_ | refine W_exit ?_ | refine W_ret ?_); (first | change W _ _ _ _ _ | change EndQ _ _ _ _ _ _ | change Exists _ | skip)) | (refine isRL ?_; first | refine uMv ?_ | refine uAs ?_ | refine uO ?_ | (refine isBin ?_; first | refine uIb ?_ | refine uCat ?_ | refine uBb true ?_ | refine uBb false ?_ | refine uP ?_) | (refine isLd ?_; first | refine uLp ?_ | refine uLb ?_ | refine uL1 ?_ | refine uL2 ?_ | refine uP ?_) | (refine isCl ?_; first | refine uC (hW) ?_ | refine uP ?_) | refine uX ?_ | refine uBu true ?_ | refine uBu false ?_ | refine uP ?_ | ((first | refine uGsD ?_ ?_ | refine uGsE ?_ ?_ | refine uGsN ?_ ?_ | refine uGsND ?_ ?_ | refine uGsNE ?_ ?_ | refine uGsNB ?_ ?_ | refine uGs ?_ ?_) <;> intro hb)) | refine W_block ?_ | refine wT fun _ => ?_ | refine wF fun _ => ?_ | ((first | refine wCsD ?_ ?_ | refine wCsE ?_ ?_ | refine wCsN ?_ ?_ | refine wCsND ?_ ?_ | refine wCsNE ?_ ?_ | refine wCsNB ?_ ?_ | refine wCs ?_ ?_) <;> intro hb))
        exact ⟨k + 1, by omega, ⟨by omega, fun j hj => by
          rcases Nat.lt_succ_iff_lt_or_eq.1 hj with h | h
          · exact hok j h
          · rw [h]; exact ht⟩, (by (repeat (first | exact sub_nil _ | refine sub_cons (by rfl) ?_))), (by (repeat (first | exact sub_nil _ | refine sub_cons (by rfl) ?_)))⟩
      · have e1 : (((k : Int) - 1).toNat) = k - 1 := by omega
        obtain ⟨p, hp⟩ : ∃ p, l[((k : Int) - 1).toNat]? = some p := ⟨_, by rw [e1]; exact List.getElem?_eq_getElem (by omega)⟩
        repeat' (first | refine W_seq ?_ | refine W_region ?_ | ((first | refine RL_nil ?_ | refine W_skip ?_ | refine W_exit ?_ | refine W_ret ?_); (first | change W _ _ _ _ _ | change EndQ _ _ _ _ _ _ | change Exists _ | skip)) | (refine isRL ?_; first | refine uMv ?_ | refine uAs ?_ | refine uO ?_ | (refine isBin ?_; first | refine uIb ?_ | refine uCat ?_ | refine uBb true ?_ | refine uBb false ?_ | refine uP ?_) | (refine isLd ?_; first | refine uLp ?_ | refine uLb ?_ | refine uL1 ?_ | refine uL2 ?_ | refine uP ?_) | (refine isCl ?_; first | refine uC (hW) ?_ | refine uP ?_) | refine uX ?_ | refine uBu true ?_ | refine uBu false ?_ | refine uP ?_ | ((first | refine uGsD ?_ ?_ | refine uGsE ?_ ?_ | refine uGsN ?_ ?_ | refine uGsND ?_ ?_ | refine uGsNE ?_ ?_ | refine uGsNB ?_ ?_ | refine uGs ?_ ?_) <;> intro hb)) | refine W_block ?_ | refine wT fun _ => ?_ | refine wF fun _ => ?_ | ((first | refine wCsD ?_ ?_ | refine wCsE ?_ ?_ | refine wCsN ?_ ?_ | refine wCsND ?_ ?_ | refine wCsNE ?_ ?_ | refine wCsNB ?_ ?_ | refine wCs ?_ ?_) <;> intro hb))
        all_goals rename_i hb
        all_goals rw [e1] at hp
        · have hf : okAt l k = false := by unfold okAt; rw [hs, hp]; simp [hw, k0, hb]
          exact end_r (by rfl) (by rw [rising_false hlt hf]; rfl)
        · have ht : okAt l k = true := by unfold okAt; rw [hs, hp]; simp [hw, hb]
          exact ⟨k + 1, by omega, ⟨by omega, fun j hj => by
            rcases Nat.lt_succ_iff_lt_or_eq.1 hj with h | h
            · exact hok j h
            · rw [h]; exact ht⟩, (by (repeat (first | exact sub_nil _ | refine sub_cons (by rfl) ?_))), (by (repeat (first | exact sub_nil _ | refine sub_cons (by rfl) ?_)))⟩
  · have hkl : k = l.length := by omega
    subst hkl
    repeat' (first | refine W_seq ?_ | refine W_region ?_ | ((first | refine RL_nil ?_ | refine W_skip ?_ | refine W_exit ?_ | refine W_ret ?_); (first | change W _ _ _ _ _ | change EndQ _ _ _ _ _ _ | change Exists _ | skip)) | (refine isRL ?_; first | refine uMv ?_ | refine uAs ?_ | refine uO ?_ | (refine isBin ?_; first | refine uIb ?_ | refine uCat ?_ | refine uBb true ?_ | refine uBb false ?_ | refine uP ?_) | (refine isLd ?_; first | refine uLp ?_ | refine uLb ?_ | refine uL1 ?_ | refine uL2 ?_ | refine uP ?_) | (refine isCl ?_; first | refine uP ?_) | refine uX ?_ | refine uBu true ?_ | refine uBu false ?_ | refine uP ?_ | ((first | refine uGsD ?_ ?_ | refine uGsE ?_ ?_ | refine uGsN ?_ ?_ | refine uGsND ?_ ?_ | refine uGsNE ?_ ?_ | refine uGsNB ?_ ?_ | refine uGs ?_ ?_) <;> intro hb)) | refine W_block ?_ | refine wT fun _ => ?_ | refine wF fun _ => ?_ | ((first | refine wCsD ?_ ?_ | refine wCsE ?_ ?_ | refine wCsN ?_ ?_ | refine wCsND ?_ ?_ | refine wCsNE ?_ ?_ | refine wCsNB ?_ ?_ | refine wCs ?_ ?_) <;> intro hb))
    exact end_r (by rfl) (by rw [rising_true hok]; rfl)
end Go.Proofs.Ytjhkehloipmjfaa
/- Walks: graph.element, in plain words. -/
namespace Go.Proofs.Ytjhkehloipmjfaa
open Go.RowKit
def propR (p : Pr) : Bool := p.val.kind != 0 && valueRight p.val
def elementR (name : ByteArray) (labels : List ByteArray) (props : List Pr) : Bool := props.all propR && (word name && risingL labels && risingL (props.map (·.name)))
theorem element_false {name : ByteArray} {labels : List ByteArray} {props : List Pr} {p : Pr} (hp : p ∈ props) (h : propR p = false) : elementR name labels props = false := by
  unfold elementR
  rw [List.all_eq_false.2 ⟨p, hp, by simp [h]⟩]
  rfl
theorem sized_nm (l : List ByteArray) : sized 1 (l.map encS) = true := sized_S _
set_option maxRecDepth 100000 in
set_option maxHeartbeats 4000000 in
theorem gelement_v (name : ByteArray) (labels : List ByteArray) (props : List Pr) (hb : props.length ≤ 1048576) : CallsV Try.prog 89 [.one (.d (.v (.string name))), vL (labels.map encS), vL (props.map encPr)] (.val (vB (elementR name labels props))) := by
  have hlm : (props.map encPr).length = props.length := List.length_map _
  have hW := word_v name
  have hL := rising_v labels
  have hP := rising_v (props.map (·.name))
  (refine callsV_of_W (Ty := Ty) ty_ok Try.func89 rfl rfl rfl fun w0 S0 => ?_; simp only [argsF, List.zipIdx_cons, List.zipIdx_nil, List.map_cons, List.map_nil, Nat.zero_add])
  repeat' (first | refine W_seq ?_ | refine W_region ?_ | ((first | refine RL_nil ?_ | refine W_skip ?_ | refine W_exit ?_ | refine W_ret ?_); (first | change W _ _ _ _ _ | change EndQ _ _ _ _ _ _ | change Exists _ | skip)) | (refine isRL ?_; first | refine uMv ?_ | refine uAs ?_ | refine uO ?_ | (refine isBin ?_; first | refine uIb ?_ | refine uCat ?_ | refine uBb true ?_ | refine uBb false ?_ | refine uP ?_) | (refine isLd ?_; first | refine uLp ?_ | refine uLb ?_ | refine uL1 ?_ | refine uL2 ?_ | refine uP ?_) | (refine isCl ?_; first | refine uP ?_ | refine uAk ?_ | refine uA ?_ | refine uA0 ?_ | refine uWl ?_) | (refine isFa ?_; first | refine uP ?_) | (refine isSt ?_; first | refine uSw ?_ | refine uS ?_ | refine uSc ?_) | refine uX ?_ | refine uBu true ?_ | refine uBu false ?_ | refine uBs ?_ | refine uP ?_ | refine uN ?_ | refine uON ?_ | ((first | refine uGsD ?_ ?_ | refine uGsE ?_ ?_ | refine uGsN ?_ ?_ | refine uGsND ?_ ?_ | refine uGsNE ?_ ?_ | refine uGsNB ?_ ?_ | refine uGs ?_ ?_) <;> intro hb)) | refine W_block ?_ | refine wT fun _ => ?_ | refine wF fun _ => ?_ | ((first | refine wCsD ?_ ?_ | refine wCsE ?_ ?_ | refine wCsN ?_ ?_ | refine wCsND ?_ ?_ | refine wCsNE ?_ ?_ | refine wCsNB ?_ ?_ | refine wCs ?_ ?_) <;> intro hb))
  refine uNil 7 100 9 1 ?_
  refine W_for (α := Nat) (fun i => [(0, .one (.d (.v (.string name)))), (1, vL (labels.map encS)), (7, .one (.own 100 (((props.take i).map (·.name)).map encS))), (10, vL (props.map encPr)), (11, vI ((props.map encPr).length : Int)), (12, vI i)]) (fun _ => [(100, .tok 9 1)]) (fun i => i ≤ props.length ∧ ∀ p ∈ props.take i, propR p = true) (fun i => props.length - i) 0 ⟨Nat.zero_le _, fun p hp => absurd hp (by simp)⟩ (by (repeat (first | exact sub_nil _ | refine sub_cons (by rfl) ?_))) (by (repeat (first | exact sub_nil _ | refine sub_cons (by rfl) ?_))) ?_
  intro i ⟨hi, hok⟩
  by_cases hlt : i < props.length
  · obtain ⟨p, hp⟩ : ∃ p, props[i]? = some p := ⟨_, List.getElem?_eq_getElem hlt⟩
    have hR := valueRight_v p.val
    have hz := sized_nm ((props.take i).map (·.name))
    have hnx : ((props.take i).map (·.name)).map encS ++ [encS p.name] = ((props.take (i + 1)).map (·.name)).map encS := by rw [List.take_add_one, hp, Option.toList_some, List.map_append, List.map_append]; rfl
    by_cases h0 : p.val.kind = 0
    · have hf : propR p = false := by unfold propR; simp [h0]
      repeat' (first | refine W_seq ?_ | refine W_region ?_ | ((first | refine RL_nil ?_ | refine W_skip ?_ | refine W_exit ?_ | refine W_ret ?_); (first | change W _ _ _ _ _ | change EndQ _ _ _ _ _ _ | change Exists _ | skip)) | (refine isRL ?_; first | refine uMv ?_ | refine uAs ?_ | refine uO ?_ | (refine isBin ?_; first | refine uIb ?_ | refine uCat ?_ | refine uBb true ?_ | refine uBb false ?_ | refine uP ?_) | (refine isLd ?_; first | refine uLp ?_ | refine uLb ?_ | refine uL1 ?_ | refine uL2 ?_ | refine uP ?_) | (refine isCl ?_; first | refine uP ?_ | refine uAk ?_ | refine uA ?_ | refine uA0 ?_ | refine uWl ?_) | (refine isFa ?_; first | refine uP ?_) | (refine isSt ?_; first | refine uSw ?_ | refine uS ?_ | refine uSc ?_) | refine uX ?_ | refine uBu true ?_ | refine uBu false ?_ | refine uBs ?_ | refine uP ?_ | refine uN ?_ | refine uON ?_ | ((first | refine uGsD ?_ ?_ | refine uGsE ?_ ?_ | refine uGsN ?_ ?_ | refine uGsND ?_ ?_ | refine uGsNE ?_ ?_ | refine uGsNB ?_ ?_ | refine uGs ?_ ?_) <;> intro hb)) | refine W_block ?_ | refine wT fun _ => ?_ | refine wF fun _ => ?_ | ((first | refine wCsD ?_ ?_ | refine wCsE ?_ ?_ | refine wCsN ?_ ?_ | refine wCsND ?_ ?_ | refine wCsNE ?_ ?_ | refine wCsNB ?_ ?_ | refine wCs ?_ ?_) <;> intro hb))
      exact end_r (by rfl) (by rw [element_false (List.mem_of_getElem? hp) hf]; rfl)
    cases hr : valueRight p.val with
    | false =>
      rw [hr] at hR
      have hf : propR p = false := by unfold propR; simp [hr]
      repeat' (first | refine W_seq ?_ | refine W_region ?_ | ((first | refine RL_nil ?_ | refine W_skip ?_ | refine W_exit ?_ | refine W_ret ?_); (first | change W _ _ _ _ _ | change EndQ _ _ _ _ _ _ | change Exists _ | skip)) | (refine isRL ?_; first | refine uMv ?_ | refine uAs ?_ | refine uO ?_ | (refine isBin ?_; first | refine uIb ?_ | refine uCat ?_ | refine uBb true ?_ | refine uBb false ?_ | refine uP ?_) | (refine isLd ?_; first | refine uLp ?_ | refine uLb ?_ | refine uL1 ?_ | refine uL2 ?_ | refine uP ?_) | (refine isCl ?_; first | refine uC (hR) ?_ | refine uP ?_ | refine uAk ?_ | refine uA ?_ | refine uA0 ?_ | refine uWl ?_) | (refine isFa ?_; first | refine uP ?_) | (refine isSt ?_; first | refine uSw ?_ | refine uS ?_ | refine uSc ?_) | refine uX ?_ | refine uBu true ?_ | refine uBu false ?_ | refine uBs ?_ | refine uP ?_ | refine uN ?_ | refine uON ?_ | ((first | refine uGsD ?_ ?_ | refine uGsE ?_ ?_ | refine uGsN ?_ ?_ | refine uGsND ?_ ?_ | refine uGsNE ?_ ?_ | refine uGsNB ?_ ?_ | refine uGs ?_ ?_) <;> intro hb)) | refine W_block ?_ | refine wT fun _ => ?_ | refine wF fun _ => ?_ | ((first | refine wCsD ?_ ?_ | refine wCsE ?_ ?_ | refine wCsN ?_ ?_ | refine wCsND ?_ ?_ | refine wCsNE ?_ ?_ | refine wCsNB ?_ ?_ | refine wCs ?_ ?_) <;> intro hb))
      exact end_r (by rfl) (by rw [element_false (List.mem_of_getElem? hp) hf]; rfl)
    | true =>
      rw [hr] at hR
      have ht : propR p = true := by unfold propR; simp [h0, hr]
      repeat' (first | refine W_seq ?_ | refine W_region ?_ | ((first | refine RL_nil ?_ | refine W_skip ?_ | refine W_exit ?_ | refine W_ret ?_); (first | change W _ _ _ _ _ | change EndQ _ _ _ _ _ _ | change Exists _ | skip)) | (refine isRL ?_; first | refine uMv ?_ | refine uAs ?_ | refine uO ?_ | (refine isBin ?_; first | refine uIb ?_ | refine uCat ?_ | refine uBb true ?_ | refine uBb false ?_ | refine uP ?_) | (refine isLd ?_; first | refine uLp ?_ | refine uLb ?_ | refine uL1 ?_ | refine uL2 ?_ | refine uP ?_) | (refine isCl ?_; first | refine uC (hR) ?_ | refine uP ?_ | refine uAk ?_ | refine uA ?_ | refine uA0 ?_ | refine uWl ?_) | (refine isFa ?_; first | refine uP ?_) | (refine isSt ?_; first | refine uSw ?_ | refine uS ?_ | refine uSc ?_) | refine uX ?_ | refine uBu true ?_ | refine uBu false ?_ | refine uBs ?_ | refine uP ?_ | refine uN ?_ | refine uON ?_ | ((first | refine uGsD ?_ ?_ | refine uGsE ?_ ?_ | refine uGsN ?_ ?_ | refine uGsND ?_ ?_ | refine uGsNE ?_ ?_ | refine uGsNB ?_ ?_ | refine uGs ?_ ?_) <;> intro hb)) | refine W_block ?_ | refine wT fun _ => ?_ | refine wF fun _ => ?_ | ((first | refine wCsD ?_ ?_ | refine wCsE ?_ ?_ | refine wCsN ?_ ?_ | refine wCsND ?_ ?_ | refine wCsNE ?_ ?_ | refine wCsNB ?_ ?_ | refine wCs ?_ ?_) <;> intro hb))
      exact ⟨i + 1, by omega, ⟨by omega, fun q hq => by
        rw [List.take_add_one, hp, Option.toList_some] at hq
        rcases List.mem_append.1 hq with h | h
        · exact hok q h
        · rw [List.mem_singleton.1 h]; exact ht⟩, (by (repeat (first | exact sub_nil _ | refine sub_cons (by rfl) ?_))), (by (repeat (first | exact sub_nil _ | refine sub_cons (by rfl) ?_)))⟩
  · have hil : i = props.length := by omega
    subst hil
    rw [List.take_length] at hok
    rw [List.take_length]
    have hall : props.all propR = true := List.all_eq_true.2 hok
    have e : elementR name labels props = (word name && risingL labels && risingL (props.map (·.name))) := by unfold elementR; rw [hall]; rfl
    repeat' (first | refine W_seq ?_ | refine W_region ?_ | ((first | refine RL_nil ?_ | refine W_skip ?_ | refine W_exit ?_ | refine W_ret ?_); (first | change W _ _ _ _ _ | change EndQ _ _ _ _ _ _ | change Exists _ | skip)) | (refine isRL ?_; first | refine uMv ?_ | refine uAs ?_ | refine uO ?_ | (refine isBin ?_; first | refine uIb ?_ | refine uCat ?_ | refine uBb true ?_ | refine uBb false ?_ | refine uP ?_) | (refine isLd ?_; first | refine uLp ?_ | refine uLb ?_ | refine uL1 ?_ | refine uL2 ?_ | refine uP ?_) | (refine isCl ?_; first | refine uC (hW) ?_ | refine uC (hL) ?_ | refine uC (hP) ?_ | refine uP ?_ | refine uAk ?_ | refine uA ?_ | refine uA0 ?_ | refine uWl ?_) | (refine isFa ?_; first | refine uP ?_) | (refine isSt ?_; first | refine uSw ?_ | refine uS ?_ | refine uSc ?_) | refine uX ?_ | refine uBu true ?_ | refine uBu false ?_ | refine uBs ?_ | refine uP ?_ | refine uN ?_ | refine uON ?_ | ((first | refine uGsD ?_ ?_ | refine uGsE ?_ ?_ | refine uGsN ?_ ?_ | refine uGsND ?_ ?_ | refine uGsNE ?_ ?_ | refine uGsNB ?_ ?_ | refine uGs ?_ ?_) <;> intro hb)) | refine W_block ?_ | refine wT fun _ => ?_ | refine wF fun _ => ?_ | ((first | refine wCsD ?_ ?_ | refine wCsE ?_ ?_ | refine wCsN ?_ ?_ | refine wCsND ?_ ?_ | refine wCsNE ?_ ?_ | refine wCsNB ?_ ?_ | refine wCs ?_ ?_) <;> intro hb))
    · rename_i h1
      exact end_r (by rfl) (by rw [e, h1, hb]; rfl)
    · rename_i h1
      exact end_r (by rfl) (by rw [e, h1, hb]; rfl)
    · exact end_r (by rfl) (by rw [e, hb]; rfl)
end Go.Proofs.Ytjhkehloipmjfaa
/- A contract that writes nothing of its caller's is a plain one. -/
namespace Go.Proofs.Ytjhkehloipmjfaa
open Go.RowKit
theorem CallsM.toV {P : Program} {f : FuncId} {args : List VV} {cs : List D} (h : CallsM P f args [] (.dat cs) []) : CallsV P f args (.val (.dat cs)) :=
  ⟨h.ent, fun S w vs ha hlt => by
    have hst : St (ictx P w (fun b => b < w.heap.size) S (pinM [] (fun _ => 0))) (fun _ => 0) (fun _ => undef) S w [] :=
      ⟨.refl _ _, hlt, fun _ hb => hb, fun _ _ hs => .inl hs, ⟨fun _ _ hs => hs, .refl⟩, fun k o hk => (by cases hk), fun k k' o o' hk => (by cases hk)⟩
    refine (h.out _ _ _ S w vs hst ⟨ha.1, fun j y v hy hv => ha.2 j y v hy hv _ _⟩).mono fun ex w' he => ?_
    obtain ⟨v, γ', T', S', rfl, hs', hv⟩ := he
    refine ⟨v, S', rfl, ⟨hs'.keep.os, hs'.keep.tape, hs'.keep.output, hs'.keep.size, fun k hk => hs'.keep.block k hk hk⟩, hs'.mon.1, fun b o hb => ?_, fun γ T => ?_⟩
    · rcases hs'.set b o hb with h1 | h1
      · exact .inl h1
      · have h1 : ¬ b < w.heap.size := h1
        exact .inr ⟨by omega, hs'.lt b o hb⟩
    · cases hv with | dat hv => exact .dat hv⟩
end Go.Proofs.Ytjhkehloipmjfaa
