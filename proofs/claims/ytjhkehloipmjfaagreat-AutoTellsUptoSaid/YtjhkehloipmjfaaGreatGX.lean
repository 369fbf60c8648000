/- Walks: a pattern's machine is built, by the document; a machine as the document's. -/
import Derived.Test.YtjhkehloipmjfaaGreatMC
import Derived.Test.YtjhkehloipmjfaaGreatQD
import Derived.Test.YtjhkehloipmjfaaGreatVJ
import Derived.Test.YtjhkehloipmjfaaGreatG1
import Derived.Test.YtjhkehloipmjfaaGreatVD
import Derived.Test.YtjhkehloipmjfaaGreatVE
import Derived.Test.YtjhkehloipmjfaaGreatQ0
import Derived.Test.YtjhkehloipmjfaaGreatVA
set_option maxRecDepth 100000
set_option maxHeartbeats 4000000
namespace Go.Proofs.YtjhkehloipmjfaaGreat
open Go.RowKit
theorem zko (p : Pt) (hs : shapeP p = true) (hn : nodesP p ≤ 20000) : CallsM Tryz.prog 12 [.dat (encP p)] [] (.dat (encA (buildM p))) [] := by
  have hL := zl0 p 0 1 ⟨[], [], 2⟩ hs (zfV hn)
  unfold buildM
  generalize layM p 0 1 ⟨[], [], 2⟩ = M at hL ⊢
  simp only [rautoS, List.map_nil] at hL
  (refine zaR (Ty := Ty) zag Tryz.func12 rfl rfl rfl (by rfl) fun w0 S0 hp => ?_; simp only [argsF, List.zipIdx_cons, List.zipIdx_nil, List.map_cons, List.map_nil, Nat.zero_add])
  iterate 7 (first | refine zac ?_ | refine zaa ?_ | ((first | refine zab ?_ ); (first | change W _ _ _ _ _ )) | (refine isRL ?_; first | refine uBx ?_ | refine uN ?_))
  refine uBdZ ?_
  refine uBxO ?_
  refine uNilO 5 1001 0 34 20 ?_
  refine uNilO 5 1002 1 89 3 ?_
  refine uRn 5 1000 (zaS (hp 1000 rfl)) ?_
  repeat' (first | refine zac ?_ | refine zaa ?_ | ((first | refine zab ?_ | refine zae ?_); (first | change W _ _ _ _ _ | change EndM _ _ _ _ _ _ _ )) | (refine isRL ?_; first | refine uMv ?_ | refine uAs ?_ | (refine isLd ?_; first | refine uLb ?_ | refine uP ?_) | (refine isCl ?_; first | refine uM (hL) ?_ ) | (refine isSt ?_; first | refine uSw ?_ ) | refine uNp ?_ ))
  exact zcO (by rfl) rfl ghasA
end Go.Proofs.YtjhkehloipmjfaaGreat
namespace Go.Proofs.YtjhkehloipmjfaaGreat
open Go.RowKit
theorem ziP (s : ByteArray) : CallsV Tryz.prog 79 [.one (.d (.v (.string s)))] (.val (vB (word s))) :=
  zeM (enters Tryz.func79 rfl rfl) fun S w vs ha => by
    obtain ⟨v, rfl, h1⟩ := args1 ha
    rw [pv_v h1]
    exact zbW s w
def okAt (l : List ByteArray) (i : Nat) : Bool := match l[i]? with
  | none => true
  | some s => word s && (i == 0 || match l[i - 1]? with
    | none => true
    | some p => Op.bytesLess p.toList s.toList)
def risingL (l : List ByteArray) : Bool := (List.range l.length).all (okAt l)
theorem zei {l : List ByteArray} {i : Nat} (hi : i < l.length) (h : okAt l i = false) : risingL l = false := by
  unfold risingL
  rw [List.all_eq_false]
  exact ⟨i, List.mem_range.2 hi, by simp [h]⟩
theorem zhu {l : List ByteArray} (h : ∀ i, i < l.length → okAt l i = true) : risingL l = true := by
  unfold risingL
  rw [List.all_eq_true]
  exact fun i hi => h i (List.mem_range.1 hi)
theorem zgN (l : List ByteArray) : CallsV Tryz.prog 80 [vL (l.map encS)] (.val (vB (risingL l))) := by
  have hlm : (l.map encS).length = l.length := List.length_map _
  (refine zaj (Ty := Ty) zag Tryz.func80 rfl rfl rfl fun w0 S0 => ?_; simp only [argsF, List.zipIdx_cons, List.zipIdx_nil, List.map_cons, List.map_nil, Nat.zero_add])
  repeat' (first | refine zac ?_ | refine zaa ?_ | ((first | refine zab ?_ ); (first | change W _ _ _ _ _ )) | (refine isRL ?_; first | refine uMv ?_ | refine uAs ?_ | (refine isCl ?_; first | refine uP ?_) ) | refine zad ?_ )
  refine zaL (α := Nat) (fun i => [(0, vL (l.map encS)), (5, vL (l.map encS)), (6, vI ((l.map encS).length : Int)), (7, vI i)]) (fun _ => []) (fun i => i ≤ l.length ∧ ∀ j, j < i → okAt l j = true) (fun i => l.length - i) 0 ⟨Nat.zero_le _, fun j hj => absurd hj (Nat.not_lt_zero _)⟩ subA subA ?_
  intro k ⟨hk, hok⟩
  refine zbp (t := 0) (rows := l.map encS) rfl rfl fun hlim => ?_
  rw [hlm] at hlim
  by_cases hlt : k < l.length
  · obtain ⟨s, hs⟩ : ∃ s, l[k]? = some s := ⟨_, List.getElem?_eq_getElem hlt⟩
    have hW := ziP s
    cases hw : word s with
    | false =>
      rw [hw] at hW
      have hf : okAt l k = false := by unfold okAt; rw [hs]; simp [hw]
      repeat' (first | refine zac ?_ | refine zaa ?_ | ((first | refine zab ?_ | refine zaf ?_ | refine zae ?_); (first | change W _ _ _ _ _ | skip)) | (refine isRL ?_; first | refine uMv ?_ | refine uAs ?_ | refine uO ?_ | (refine isBin ?_; first | refine uBb true ?_ ) | (refine isLd ?_; first | refine uL2 ?_ ) | (refine isCl ?_; first | refine uC (hW) ?_ ) | refine uX ?_ | refine uBu true ?_ | refine uP ?_ ) | refine zad ?_ | refine wT fun _ => ?_ )
      exact zah (by rfl) (by rw [zei hlt hf]; rfl)
    | true =>
      rw [hw] at hW
      by_cases k0 : k = 0
      · have ht : okAt l k = true := by unfold okAt; rw [hs]; simp [hw, k0]
        repeat' (first | refine zac ?_ | refine zaa ?_ | ((first | refine zab ?_ | refine zaf ?_ ); (first | change W _ _ _ _ _ | change Exists _ )) | (refine isRL ?_; first | refine uMv ?_ | refine uAs ?_ | refine uO ?_ | (refine isBin ?_; first | refine uIb ?_ | refine uBb true ?_ | refine uBb false ?_ ) | (refine isLd ?_; first | refine uL2 ?_ ) | (refine isCl ?_; first | refine uC (hW) ?_ ) | refine uX ?_ | refine uBu false ?_ | refine uP ?_ ) | refine zad ?_ | refine wT fun _ => ?_ | refine wF fun _ => ?_ )
        exact ⟨k + 1, by omega, ⟨by omega, fun j hj => by
          rcases Nat.lt_succ_iff_lt_or_eq.1 hj with h | h
          · exact hok j h
          · rw [h]; exact ht⟩, subA, subA⟩
      · have e1 : (((k : Int) - 1).toNat) = k - 1 := by omega
        obtain ⟨p, hp⟩ : ∃ p, l[((k : Int) - 1).toNat]? = some p := ⟨_, by rw [e1]; exact List.getElem?_eq_getElem (by omega)⟩
        repeat' (first | refine zac ?_ | refine zaa ?_ | ((first | refine zab ?_ | refine zaf ?_ | refine zae ?_); (first | change W _ _ _ _ _ | change Exists _ | skip)) | (refine isRL ?_; first | refine uMv ?_ | refine uAs ?_ | (refine isBin ?_; first | refine uIb ?_ | refine uBb true ?_ | refine uP ?_) | (refine isLd ?_; first | refine uL2 ?_ ) | (refine isCl ?_; first | refine uC (hW) ?_ ) | refine uX ?_ | refine uBu false ?_ | refine uP ?_ ) | refine zad ?_ | refine wT fun _ => ?_ | ((first | refine wCsNB ?_ ?_ ) <;> intro hb))
        all_goals rename_i hb
        all_goals rw [e1] at hp
        · have hf : okAt l k = false := by unfold okAt; rw [hs, hp]; simp [hw, k0, hb]
          exact zah (by rfl) (by rw [zei hlt hf]; rfl)
        · have ht : okAt l k = true := by unfold okAt; rw [hs, hp]; simp [hw, hb]
          exact ⟨k + 1, by omega, ⟨by omega, fun j hj => by
            rcases Nat.lt_succ_iff_lt_or_eq.1 hj with h | h
            · exact hok j h
            · rw [h]; exact ht⟩, subA, subA⟩
  · have hkl : k = l.length := by omega
    subst hkl
    repeat' (first | refine zac ?_ | refine zaa ?_ | ((first | refine zab ?_ | refine zaD ?_ | refine zae ?_); (first | change W _ _ _ _ _ | change EndQ _ _ _ _ _ _ )) | (refine isRL ?_; first | refine uAs ?_ | (refine isBin ?_; first | refine uBb false ?_ ) ) | refine wF fun _ => ?_ )
    exact zah (by rfl) (by rw [zhu hok]; rfl)
end Go.Proofs.YtjhkehloipmjfaaGreat
namespace Go.Proofs.YtjhkehloipmjfaaGreat
open Go.RowKit
def propR (p : Pr) : Bool := p.val.kind != 0 && valueRight p.val
def elementR (name : ByteArray) (labels : List ByteArray) (props : List Pr) : Bool := props.all propR && (word name && risingL labels && risingL (props.map (·.name)))
theorem zdT {name : ByteArray} {labels : List ByteArray} {props : List Pr} {p : Pr} (hp : p ∈ props) (h : propR p = false) : elementR name labels props = false := by
  unfold elementR
  rw [List.all_eq_false.2 ⟨p, hp, by simp [h]⟩]
  rfl
theorem zkH (l : List ByteArray) : sized 1 (l.map encS) = true := zao _
theorem zfk (name : ByteArray) (labels : List ByteArray) (props : List Pr) (hb : props.length ≤ 1048576) : CallsV Tryz.prog 54 [.one (.d (.v (.string name))), vL (labels.map encS), vL (props.map encPr)] (.val (vB (elementR name labels props))) := by
  have hlm : (props.map encPr).length = props.length := List.length_map _
  have hW := ziP name
  have hL := zgN labels
  have hP := zgN (props.map (·.name))
  (refine zaj (Ty := Ty) zag Tryz.func54 rfl rfl rfl fun w0 S0 => ?_; simp only [argsF, List.zipIdx_cons, List.zipIdx_nil, List.map_cons, List.map_nil, Nat.zero_add])
  repeat' (first | refine zac ?_ | refine zaa ?_ | ((first | refine zab ?_ ); (first | change W _ _ _ _ _ )) | (refine isRL ?_; first | refine uMv ?_ | refine uAs ?_ | (refine isCl ?_; first | refine uP ?_ ) ) | refine zad ?_ )
  refine uNil 7 100 9 1 ?_
  refine zaL (α := Nat) (fun i => [(0, .one (.d (.v (.string name)))), (1, vL (labels.map encS)), (7, .one (.own 100 (((props.take i).map (·.name)).map encS))), (10, vL (props.map encPr)), (11, vI ((props.map encPr).length : Int)), (12, vI i)]) (fun _ => [(100, .tok 9 1)]) (fun i => i ≤ props.length ∧ ∀ p ∈ props.take i, propR p = true) (fun i => props.length - i) 0 ⟨Nat.zero_le _, fun p hp => absurd hp (by simp)⟩ subA subA ?_
  intro i ⟨hi, hok⟩
  by_cases hlt : i < props.length
  · obtain ⟨p, hp⟩ : ∃ p, props[i]? = some p := ⟨_, List.getElem?_eq_getElem hlt⟩
    have hR := zd1 p.val
    have hz := zkH ((props.take i).map (·.name))
    have hnx : ((props.take i).map (·.name)).map encS ++ [encS p.name] = ((props.take (i + 1)).map (·.name)).map encS := by rw [List.take_add_one, hp, Option.toList_some, List.map_append, List.map_append]; rfl
    by_cases h0 : p.val.kind = 0
    · have hf : propR p = false := by unfold propR; simp [h0]
      repeat' (first | refine zac ?_ | refine zaa ?_ | ((first | refine zab ?_ | refine zaf ?_ | refine zae ?_); (first | change W _ _ _ _ _ | skip)) | (refine isRL ?_; first | refine uMv ?_ | refine uAs ?_ | refine uO ?_ | (refine isBin ?_; first | refine uBb true ?_ ) | (refine isLd ?_; first | refine uLp ?_ | refine uL1 ?_ ) | (refine isFa ?_; first | refine uP ?_) | (refine isSt ?_; first | refine uSw ?_ ) | refine uX ?_ | refine uP ?_ | refine uN ?_ ) | refine zad ?_ | refine wT fun _ => ?_ )
      exact zah (by rfl) (by rw [zdT (List.mem_of_getElem? hp) hf]; rfl)
    cases hr : valueRight p.val with
    | false =>
      rw [hr] at hR
      have hf : propR p = false := by unfold propR; simp [hr]
      repeat' (first | refine zac ?_ | refine zaa ?_ | ((first | refine zab ?_ | refine zaf ?_ | refine zae ?_); (first | change W _ _ _ _ _ | skip)) | (refine isRL ?_; first | refine uMv ?_ | refine uAs ?_ | (refine isBin ?_; first | refine uBb true ?_ | refine uBb false ?_ ) | (refine isLd ?_; first | refine uLp ?_ | refine uL1 ?_ ) | (refine isCl ?_; first | refine uC (hR) ?_ ) | (refine isFa ?_; first | refine uP ?_) | (refine isSt ?_; first | refine uSw ?_ ) | refine uX ?_ | refine uBu true ?_ | refine uP ?_ | refine uN ?_ ) | refine zad ?_ | refine wT fun _ => ?_ )
      exact zah (by rfl) (by rw [zdT (List.mem_of_getElem? hp) hf]; rfl)
    | true =>
      rw [hr] at hR
      have ht : propR p = true := by unfold propR; simp [h0, hr]
      repeat' (first | refine zac ?_ | refine zaa ?_ | ((first | refine zab ?_ | refine zaf ?_ ); (first | change W _ _ _ _ _ | change Exists _ )) | (refine isRL ?_; first | refine uMv ?_ | refine uAs ?_ | (refine isBin ?_; first | refine uIb ?_ | refine uBb true ?_ | refine uBb false ?_ ) | (refine isLd ?_; first | refine uLp ?_ | refine uL1 ?_ ) | (refine isCl ?_; first | refine uC (hR) ?_ | refine uAk ?_ ) | (refine isFa ?_; first | refine uP ?_) | (refine isSt ?_; first | refine uSw ?_ ) | refine uX ?_ | refine uBu false ?_ | refine uBs ?_ | refine uP ?_ | refine uN ?_ ) | refine zad ?_ | refine wT fun _ => ?_ | refine wF fun _ => ?_ )
      exact ⟨i + 1, by omega, ⟨by omega, fun q hq => by
        rw [List.take_add_one, hp, Option.toList_some] at hq
        rcases List.mem_append.1 hq with h | h
        · exact hok q h
        · rw [List.mem_singleton.1 h]; exact ht⟩, subA, subA⟩
  · have hil : i = props.length := by omega
    subst hil
    rw [List.take_length] at hok
    rw [List.take_length]
    have hall : props.all propR = true := List.all_eq_true.2 hok
    have e : elementR name labels props = (word name && risingL labels && risingL (props.map (·.name))) := by unfold elementR; rw [hall]; rfl
    repeat' (first | refine zac ?_ | refine zaa ?_ | ((first | refine zab ?_ | refine zaD ?_ | refine zae ?_); (first | change W _ _ _ _ _ | change EndQ _ _ _ _ _ _ )) | (refine isRL ?_; first | refine uMv ?_ | refine uAs ?_ | refine uO ?_ | (refine isBin ?_; first | refine uBb false ?_ ) | (refine isCl ?_; first | refine uC (hW) ?_ | refine uC (hL) ?_ | refine uC (hP) ?_ ) | refine uP ?_ | ((first | refine uGs ?_ ?_) <;> intro hb)) | refine wF fun _ => ?_ )
    · rename_i h1
      exact zah (by rfl) (by rw [e, h1, hb]; rfl)
    · rename_i h1
      exact zah (by rfl) (by rw [e, h1, hb]; rfl)
    · exact zah (by rfl) (by rw [e, hb]; rfl)
end Go.Proofs.YtjhkehloipmjfaaGreat
namespace Go.Proofs.YtjhkehloipmjfaaGreat
open Go.RowKit
noncomputable def nmap {α : Type} (f : α → ByteArray) (l : List α) : Nat → List (Value × VV)
  | 0 => []
  | k + 1 => match l[k]? with
    | some q => insM (.string (f q)) (vI k) (nmap f l k)
    | none => nmap f l k
theorem zgg {α : Type} {f : α → ByteArray} {l : List α} {k : Nat} {q : α} (h : l[k]? = some q) : nmap f l (k + 1) = insM (.string (f q)) (vI k) (nmap f l k) := by
  simp only [nmap, h]
theorem zdY {α : Type} {f : α → ByteArray} {l : List α} : ∀ (k : Nat) (p : Value × VV), p ∈ nmap f l k → ∃ s : ByteArray, p.1 = .string s
  | 0, p, h => by simp [nmap] at h
  | k + 1, p, h => by
    simp only [nmap] at h
    split at h
    · rcases zgD h with h | h
      · exact ⟨_, by rw [h]⟩
      · exact zdY k p h
    · exact zdY k p h
theorem zhL {α : Type} {f : α → ByteArray} {l : List α} (k : Nat) : ∀ p ∈ nmap f l k, MapKept.IsKey .string p.1 := fun p hp => by
  obtain ⟨s, h⟩ := zdY k p hp
  rw [h]; trivial
noncomputable def idxS (g : Gr) (i j : Nat) : Obs := [(1000, .obj 120 [.d (.sl (g.nodes.map encNd)), .d (.sl (g.edges.map encEd)), .mr 1001, .mr 1002, .d (.sl [])]), (1001, .mp (nmap Nd.name g.nodes i)), (1002, .mp (nmap Ed.name g.edges j))]
theorem zjN (g : Gr) : CallsM Tryz.prog 53 [.dat (encG g)] [] (.one (.po 1000 0)) (idxS g g.nodes.length g.edges.length) := by
  have hln : (g.nodes.map encNd).length = g.nodes.length := List.length_map _
  have hle : (g.edges.map encEd).length = g.edges.length := List.length_map _
  unfold encG idxS
  (refine zaR (Ty := Ty) zag Tryz.func53 rfl rfl rfl (by rfl) fun w0 S0 hp => ?_; simp only [argsF, List.zipIdx_cons, List.zipIdx_nil, List.map_cons, List.map_nil, Nat.zero_add])
  repeat' (first | refine zac ?_ | refine zaa ?_ | ((first | refine zab ?_ ); (first | change W _ _ _ _ _ )) | (refine isRL ?_; first | refine uMkM ?_ | refine uBdC ?_ | refine uBxG (cs' := [.d (.sl (g.nodes.map encNd)), .d (.sl (g.edges.map encEd)), .mr 9, .mr 10, .d (.sl [])]) ?_ | refine uMv ?_ | refine uAs ?_ | (refine isLd ?_; first | refine uLb ?_ | refine uL1 ?_ ) | (refine isCl ?_; first | refine uP ?_) | (refine isFa ?_; first | refine uP ?_) | refine uBx ?_ ) | refine zad ?_ )
  refine wRn 12 1000 (zaS (hp 1000 rfl)) ?_
  refine wRn 9 1001 (zaS (hp 1001 rfl)) ?_
  refine wRn 10 1002 (zaS (hp 1002 rfl)) ?_
  refine zaL (α := Nat) (fun i => [(3, .one (.po 1000 0)), (1, .one (.po 1 0)), (14, vL (g.nodes.map encNd)), (15, vI ((g.nodes.map encNd).length : Int)), (16, vI i)]) (fun i => [(1, .box 25 [.sl (g.nodes.map encNd), .sl (g.edges.map encEd)]), (1000, .obj 120 [.d (.sl (g.nodes.map encNd)), .d (.sl (g.edges.map encEd)), .mr 1001, .mr 1002, .d (.sl [])]), (1001, .mp (nmap Nd.name g.nodes i)), (1002, .mp [])]) (fun i => i ≤ g.nodes.length) (fun i => g.nodes.length - i) 0 (Nat.zero_le _) subA subA ?_
  intro i hi
  refine zbp (t := 14) (rows := g.nodes.map encNd) rfl rfl fun hlim => ?_
  rw [hln] at hlim
  by_cases hlt : i < g.nodes.length
  · obtain ⟨q, hq⟩ : ∃ q, g.nodes[i]? = some q := ⟨_, List.getElem?_eq_getElem hlt⟩
    have hks := zhL (f := Nd.name) (l := g.nodes) i
    have hnx : nmap Nd.name g.nodes (i + 1) = insM (.string q.name) (vI i) (nmap Nd.name g.nodes i) := zgg hq
    repeat' (first | refine zac ?_ | refine zaa ?_ | ((first | refine zab ?_ | refine zaf ?_ | refine mN ?_); (first | change W _ _ _ _ _ | change Exists _ | skip)) | (refine isRL ?_; first | refine uMuM hks ?_ | refine uMv ?_ | refine uAs ?_ | (refine isBin ?_; first | refine uIb ?_ | refine uBb true ?_ ) | (refine isLd ?_; first | refine uLp ?_ ) | (refine isSt ?_; first | refine uSw ?_ ) | refine uX ?_ | refine uN ?_) | refine zad ?_ | refine wT fun _ => ?_ | refine uAnyL ?_ | (refine isD ?_; first | refine mMv ?_ | (refine imLd ?_; first | refine mL1 ?_ | refine mP ?_) | (refine imFa ?_; first | refine mP ?_) | refine mNp ?_ ) )
    exact ⟨i + 1, by omega, by omega, subA, (by simp only [hnx]; exact subA)⟩
  · obtain rfl : i = g.nodes.length := by omega
    repeat' (first | refine zac ?_ | refine zaa ?_ | ((first | refine zab ?_ | refine zaD ?_ ); (first | change W _ _ _ _ _ )) | (refine isRL ?_; first | refine uMv ?_ | (refine isBin ?_; first | refine uBb false ?_ ) | (refine isLd ?_; first | refine uL1 ?_ ) | (refine isCl ?_; first | refine uP ?_) | (refine isFa ?_; first | refine uP ?_) ) | refine zad ?_ | refine wF fun _ => ?_ )
    refine zaL (α := Nat) (fun i => [(3, .one (.po 1000 0)), (1, .one (.po 1 0)), (30, vL (g.edges.map encEd)), (31, vI ((g.edges.map encEd).length : Int)), (32, vI i)]) (fun i => [(1, .box 25 [.sl (g.nodes.map encNd), .sl (g.edges.map encEd)]), (1000, .obj 120 [.d (.sl (g.nodes.map encNd)), .d (.sl (g.edges.map encEd)), .mr 1001, .mr 1002, .d (.sl [])]), (1001, .mp (nmap Nd.name g.nodes g.nodes.length)), (1002, .mp (nmap Ed.name g.edges i))]) (fun i => i ≤ g.edges.length) (fun i => g.edges.length - i) 0 (Nat.zero_le _) subA subA ?_
    intro j hj
    refine zbp (t := 30) (rows := g.edges.map encEd) rfl rfl fun hlim2 => ?_
    rw [hle] at hlim2
    by_cases hjt : j < g.edges.length
    · obtain ⟨q, hq⟩ : ∃ q, g.edges[j]? = some q := ⟨_, List.getElem?_eq_getElem hjt⟩
      have hks := zhL (f := Ed.name) (l := g.edges) j
      have hnx : nmap Ed.name g.edges (j + 1) = insM (.string q.name) (vI j) (nmap Ed.name g.edges j) := zgg hq
      repeat' (first | refine zac ?_ | refine zaa ?_ | ((first | refine zab ?_ | refine zaf ?_ | refine mN ?_); (first | change W _ _ _ _ _ | change Exists _ | skip)) | (refine isRL ?_; first | refine uMuM hks ?_ | refine uMv ?_ | refine uAs ?_ | (refine isBin ?_; first | refine uIb ?_ | refine uBb true ?_ ) | (refine isLd ?_; first | refine uLp ?_ ) | (refine isSt ?_; first | refine uSw ?_ ) | refine uX ?_ | refine uN ?_) | refine zad ?_ | refine wT fun _ => ?_ | refine uAnyL ?_ | (refine isD ?_; first | refine mMv ?_ | (refine imLd ?_; first | refine mL1 ?_ | refine mP ?_) | (refine imFa ?_; first | refine mP ?_) | refine mNp ?_ ) )
      exact ⟨j + 1, by omega, by omega, subA, (by simp only [hnx]; exact subA)⟩
    · obtain rfl : j = g.edges.length := by omega
      repeat' (first | refine zac ?_ | refine zaa ?_ | ((first | refine zab ?_ | refine zaD ?_ | refine zae ?_ ); (first | change W _ _ _ _ _ | change EndM _ _ _ _ _ _ _ )) | (refine isRL ?_; first | refine uMv ?_ | refine uAs ?_ | (refine isBin ?_; first | refine uBb false ?_ ) ) | refine wF fun _ => ?_ )
      exact zcO (by rfl) rfl ghasA
theorem is_m (g : Gr) (n : Int) : CallsM Tryz.prog 55 [.one (.po 1000 0), vI n] (idxS g g.nodes.length g.edges.length) (vB (decide (0 ≤ n ∧ n < (g.nodes.length : Int)))) (idxS g g.nodes.length g.edges.length) := by
  have hln : (g.nodes.map encNd).length = g.nodes.length := List.length_map _
  unfold idxS
  (refine zaR (Ty := Ty) zag Tryz.func55 rfl rfl rfl (by rfl) fun w0 S0 hp => ?_; simp only [argsF, List.zipIdx_cons, List.zipIdx_nil, List.map_cons, List.map_nil, Nat.zero_add])
  by_cases h0 : 0 ≤ n
  · by_cases h1 : n < (g.nodes.length : Int)
    · repeat' (first | refine zac ?_ | refine zaa ?_ | ((first | refine zab ?_ | refine zae ?_); (first | change W _ _ _ _ _ | change EndM _ _ _ _ _ _ _ )) | (refine isRL ?_; first | refine uMv ?_ | refine uAs ?_ | (refine isBin ?_; first | refine uBb true ?_ ) | (refine isLd ?_; first | refine uP ?_) | (refine isCl ?_; first | refine uP ?_) | (refine isFa ?_; first | refine uP ?_) | refine uNp ?_ | refine uP ?_ ))
      exact zcO (by rfl) (by rw [decide_eq_true (And.intro h0 h1)]) ghasA
    · repeat' (first | refine zac ?_ | refine zaa ?_ | ((first | refine zab ?_ | refine zae ?_); (first | change W _ _ _ _ _ | change EndM _ _ _ _ _ _ _ )) | (refine isRL ?_; first | refine uMv ?_ | refine uAs ?_ | (refine isBin ?_; first | refine uBb true ?_ | refine uBb false ?_ ) | (refine isLd ?_; first | refine uP ?_) | (refine isCl ?_; first | refine uP ?_) | (refine isFa ?_; first | refine uP ?_) | refine uNp ?_ | refine uP ?_ ))
      exact zcO (by rfl) (by rw [decide_eq_false (fun h => h1 h.2)]) ghasA
  · repeat' (first | refine zac ?_ | refine zaa ?_ | ((first | refine zab ?_ | refine zae ?_); (first | change W _ _ _ _ _ | change EndM _ _ _ _ _ _ _ )) | (refine isRL ?_; first | refine uMv ?_ | refine uAs ?_ | refine uO ?_ | (refine isBin ?_; first | refine uBb false ?_ ) | refine uP ?_ ))
    exact zcO (by rfl) (by rw [decide_eq_false (fun h => h0 h.1)]) ghasA
end Go.Proofs.YtjhkehloipmjfaaGreat
