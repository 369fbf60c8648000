/- Walks: graph.Right, in plain words. -/
import Derived.Test.YtjhkehloipmjfaaGreatGX
set_option maxRecDepth 100000
set_option maxHeartbeats 8000000
namespace Go.Proofs.YtjhkehloipmjfaaGreat
open Go.RowKit
def nodeR (n : Nd) : Bool := elementR n.name n.labels n.props
def inN (g : Gr) (n : Int) : Bool := decide (0 ≤ n ∧ n < (g.nodes.length : Int))
def edgeR (g : Gr) (e : Ed) : Bool := elementR e.name e.labels e.props && inN g e.src && inN g e.dst
noncomputable def namesR (g : Gr) : Bool := decide ((nmap Nd.name g.nodes g.nodes.length).length = g.nodes.length) && decide ((nmap Ed.name g.edges g.edges.length).length = g.edges.length)
noncomputable def graphRight (g : Gr) : Int := if 1000 < g.nodes.length ∨ 1000 < g.edges.length then 6 else if (namesR g && g.nodes.all nodeR && g.edges.all (edgeR g)) = true then 0 else 1
theorem zgX {α : Type} {f : α → Bool} {l : List α} {i : Nat} {q : α} (h : l[i]? = some q) : (l.take (i + 1)).all f = ((l.take i).all f && f q) := by
  rw [List.take_add_one, h, Option.toList_some, List.all_append]; simp
theorem zeg (g : Gr) (hN : ∀ n ∈ g.nodes, n.props.length ≤ 1048576) (hE : ∀ n ∈ g.edges, n.props.length ≤ 1048576) : CallsV Tryz.prog 27 [.dat (encG g)] (.val (vI (graphRight g))) := by
  have hln : (g.nodes.map encNd).length = g.nodes.length := List.length_map _
  have hle : (g.edges.map encEd).length = g.edges.length := List.length_map _
  have hI := zjN g
  have hIs := is_m g
  unfold idxS at hI hIs
  generalize hm1 : nmap Nd.name g.nodes g.nodes.length = M1 at hI hIs
  generalize hm2 : nmap Ed.name g.edges g.edges.length = M2 at hI hIs
  have hr : graphRight g = if 1000 < g.nodes.length ∨ 1000 < g.edges.length then 6 else if ((decide (M1.length = g.nodes.length) && decide (M2.length = g.edges.length)) && g.nodes.all nodeR && g.edges.all (edgeR g)) = true then 0 else 1 := by unfold graphRight namesR; rw [hm1, hm2]
  rw [hr]
  unfold encG at hI ⊢
  skip
  refine zeb (Ty := Ty) zag Tryz.func27 rfl rfl rfl fun w0 S0 _ hp => ?_
  simp only [argsF, List.zipIdx_cons, List.zipIdx_nil, List.map_cons, List.map_nil, Nat.zero_add]
  by_cases h1 : 1000 < g.nodes.length
  · rw [if_pos (.inl h1)]
    repeat' (first | refine zac ?_ | refine zaa ?_ | ((first | refine zab ?_ | refine zae ?_ ); (first | change W _ _ _ _ _ | skip)) | (refine isRL ?_; first | refine uMv ?_ | refine uAs ?_ | refine uO ?_ | (refine isBin ?_; first | refine uBb true ?_ ) | (refine isLd ?_; first | refine uL1 ?_ ) | (refine isCl ?_; first | refine uP ?_) | (refine isFa ?_; first | refine uP ?_) | refine uP ?_ | refine uBx ?_ ) | refine wT fun _ => ?_ )
    exact zah (by rfl) rfl
  by_cases h2 : 1000 < g.edges.length
  · rw [if_pos (.inr h2)]
    repeat' (first | refine zac ?_ | refine zaa ?_ | ((first | refine zab ?_ | refine zae ?_ ); (first | change W _ _ _ _ _ | skip)) | (refine isRL ?_; first | refine uMv ?_ | refine uAs ?_ | (refine isBin ?_; first | refine uBb true ?_ | refine uBb false ?_ ) | (refine isLd ?_; first | refine uL1 ?_ ) | (refine isCl ?_; first | refine uP ?_) | (refine isFa ?_; first | refine uP ?_) | refine uP ?_ | refine uBx ?_ ) | refine wT fun _ => ?_ )
    exact zah (by rfl) rfl
  rw [if_neg (fun h => h.elim h1 h2)]
  by_cases a12 : M1.length = g.nodes.length ∧ M2.length = g.edges.length
  rotate_left
  · have hno : (decide (M1.length = g.nodes.length) && decide (M2.length = g.edges.length)) = false := by rw [← Bool.decide_and]; exact decide_eq_false a12
    rw [hno]
    have hnc : M1.length ≠ g.nodes.length ∨ (M1.length = g.nodes.length ∧ M2.length ≠ g.edges.length) := by
      by_cases a1 : M1.length = g.nodes.length
      · exact .inr ⟨a1, fun a2 => a12 ⟨a1, a2⟩⟩
      · exact .inl a1
    clear hno a12 hIs hr
    rcases hnc with a1 | ⟨a1, a2⟩
    all_goals
      repeat' (first | refine zac ?_ | refine zaa ?_ | ((first | refine zab ?_ | refine zaf ?_ ); (first | change W _ _ _ _ _ )) | (refine isRL ?_; first | refine uM hI ?_ (hfr := fun k _ => zaS (hp k)) | refine uMv ?_ | refine uAs ?_ | (refine isBin ?_; first | refine uBb false ?_ ) | (refine isLd ?_; first | refine uLb ?_ | refine uL1 ?_ ) | (refine isCl ?_; first | refine uP ?_) | (refine isFa ?_; first | refine uP ?_) | refine uP ?_ | refine uBx ?_ ) | refine zad ?_ | refine wF fun _ => ?_ | refine uAny ?_ | (refine isD ?_; first | refine mLenM ?_ (hn := rfl) | refine mMv ?_ | refine mAs ?_ | refine mO ?_ | (refine imBin ?_; first | refine mBb true ?_ | refine mBb false ?_ ) | (refine imLd ?_; first | refine mL1 ?_ | refine mP ?_) | (refine imCl ?_; first | refine mP ?_) | (refine imFa ?_; first | refine mP ?_) | refine mNp ?_ | refine mP ?_ ) )
      refine zaL (α := Nat) (fun i => [(3, .one (.po 1000 0)), (1, .one (.po 1 0)), (4, vB false), (42, vL (g.nodes.map encNd)), (43, vI ((g.nodes.map encNd).length : Int)), (44, vI i)]) (fun _ => [(1, .box 25 [.sl (g.nodes.map encNd), .sl (g.edges.map encEd)]), (1000, .obj 120 [.d (.sl (g.nodes.map encNd)), .d (.sl (g.edges.map encEd)), .mr 1001, .mr 1002, .d (.sl [])]), (1001, .mp M1), (1002, .mp M2)]) (fun i => i ≤ g.nodes.length) (fun i => g.nodes.length - i) 0 (Nat.zero_le _) subA subA ?_
      intro i hi
      by_cases hlt : i < g.nodes.length
      · obtain ⟨q, hq⟩ : ∃ q, g.nodes[i]? = some q := ⟨_, List.getElem?_eq_getElem hlt⟩
        repeat' (first | refine zac ?_ | refine zaa ?_ | ((first | refine zab ?_ | refine zaf ?_ ); (first | change W _ _ _ _ _ | change Exists _ )) | (refine isRL ?_; first | refine uMv ?_ | refine uAs ?_ | refine uO ?_ | (refine isBin ?_; first | refine uIb ?_ | refine uBb true ?_ ) | (refine isLd ?_; first | refine uLp ?_ ) | (refine isSt ?_; first | refine uSw ?_ ) | refine uX ?_ | refine uP ?_ | refine uN ?_ ) | refine zad ?_ | refine wT fun _ => ?_ )
        exact ⟨i + 1, by omega, by omega, subA, subA⟩
      · obtain rfl : i = g.nodes.length := by omega
        repeat' (first | refine zac ?_ | refine zaa ?_ | ((first | refine zab ?_ | refine zaD ?_ ); (first | change W _ _ _ _ _ )) | (refine isRL ?_; first | refine uMv ?_ | (refine isBin ?_; first | refine uBb false ?_ ) | (refine isLd ?_; first | refine uL1 ?_ ) | (refine isCl ?_; first | refine uP ?_) | (refine isFa ?_; first | refine uP ?_) ) | refine zad ?_ | refine wF fun _ => ?_ )
        refine zaL (α := Nat) (fun i => [(3, .one (.po 1000 0)), (1, .one (.po 1 0)), (4, vB false), (60, vL (g.edges.map encEd)), (61, vI ((g.edges.map encEd).length : Int)), (62, vI i)]) (fun _ => [(1, .box 25 [.sl (g.nodes.map encNd), .sl (g.edges.map encEd)]), (1000, .obj 120 [.d (.sl (g.nodes.map encNd)), .d (.sl (g.edges.map encEd)), .mr 1001, .mr 1002, .d (.sl [])]), (1001, .mp M1), (1002, .mp M2)]) (fun i => i ≤ g.edges.length) (fun i => g.edges.length - i) 0 (Nat.zero_le _) subA subA ?_
        intro j hj
        by_cases hjt : j < g.edges.length
        · obtain ⟨q, hq⟩ : ∃ q, g.edges[j]? = some q := ⟨_, List.getElem?_eq_getElem hjt⟩
          repeat' (first | refine zac ?_ | refine zaa ?_ | ((first | refine zab ?_ | refine zaf ?_ ); (first | change W _ _ _ _ _ | change Exists _ )) | (refine isRL ?_; first | refine uMv ?_ | refine uAs ?_ | refine uO ?_ | (refine isBin ?_; first | refine uIb ?_ | refine uBb true ?_ ) | (refine isLd ?_; first | refine uLp ?_ ) | (refine isSt ?_; first | refine uSw ?_ ) | refine uX ?_ | refine uP ?_ | refine uN ?_ ) | refine zad ?_ | refine wT fun _ => ?_ )
          exact ⟨j + 1, by omega, by omega, subA, subA⟩
        · obtain rfl : j = g.edges.length := by omega
          repeat' (first | refine zac ?_ | refine zaa ?_ | ((first | refine zab ?_ | refine zaD ?_ | refine zae ?_ ); (first | change W _ _ _ _ _ | skip)) | (refine isRL ?_; first | refine uMv ?_ | refine uAs ?_ | (refine isBin ?_; first | refine uBb false ?_ ) | refine uBu true ?_ ) | refine wT fun _ => ?_ | refine wF fun _ => ?_ )
          exact zah (by rfl) rfl
  obtain ⟨a1, a2⟩ := a12
  rw [show (decide (M1.length = g.nodes.length) && decide (M2.length = g.edges.length)) = true by simp [a1, a2]]
  repeat' (first | refine zac ?_ | refine zaa ?_ | ((first | refine zab ?_ | refine zaf ?_ ); (first | change W _ _ _ _ _ )) | (refine isRL ?_; first | refine uM hI ?_ (hfr := fun k _ => zaS (hp k)) | refine uMv ?_ | refine uAs ?_ | (refine isBin ?_; first | refine uBb false ?_ ) | (refine isLd ?_; first | refine uLb ?_ | refine uL1 ?_ ) | (refine isCl ?_; first | refine uP ?_) | (refine isFa ?_; first | refine uP ?_) | refine uP ?_ | refine uBx ?_ ) | refine zad ?_ | refine wF fun _ => ?_ | refine uAny ?_ | (refine isD ?_; first | refine mLenM ?_ (hn := rfl) | refine mMv ?_ | refine mAs ?_ | (refine imBin ?_; first | refine mBb true ?_ ) | (refine imLd ?_; first | refine mL1 ?_ | refine mP ?_) | (refine imCl ?_; first | refine mP ?_) | (refine imFa ?_; first | refine mP ?_) | refine mNp ?_ | refine mP ?_ ) )
  refine zaL (α := Nat) (fun i => [(3, .one (.po 1000 0)), (1, .one (.po 1 0)), (4, vB ((g.nodes.take i).all nodeR)), (42, vL (g.nodes.map encNd)), (43, vI ((g.nodes.map encNd).length : Int)), (44, vI i)]) (fun _ => [(1, .box 25 [.sl (g.nodes.map encNd), .sl (g.edges.map encEd)]), (1000, .obj 120 [.d (.sl (g.nodes.map encNd)), .d (.sl (g.edges.map encEd)), .mr 1001, .mr 1002, .d (.sl [])]), (1001, .mp M1), (1002, .mp M2)]) (fun i => i ≤ g.nodes.length) (fun i => g.nodes.length - i) 0 (Nat.zero_le _) subA subA ?_
  intro i hi
  by_cases hlt : i < g.nodes.length
  · obtain ⟨q, hq⟩ : ∃ q, g.nodes[i]? = some q := ⟨_, List.getElem?_eq_getElem hlt⟩
    have hEl := zfk q.name q.labels q.props (hN q (List.mem_of_getElem? hq))
    have hnx := zgX (f := nodeR) hq
    cases hA : (g.nodes.take i).all nodeR with
    | false =>
      rw [hA] at hnx
      repeat' (first | refine zac ?_ | refine zaa ?_ | ((first | refine zab ?_ | refine zaf ?_ ); (first | change W _ _ _ _ _ | change Exists _ )) | (refine isRL ?_; first | refine uMv ?_ | refine uAs ?_ | refine uO ?_ | (refine isBin ?_; first | refine uIb ?_ | refine uBb true ?_ ) | (refine isLd ?_; first | refine uLp ?_ ) | (refine isSt ?_; first | refine uSw ?_ ) | refine uX ?_ | refine uP ?_ | refine uN ?_ ) | refine zad ?_ | refine wT fun _ => ?_ )
      exact ⟨i + 1, by omega, by omega, (by simp only [hnx]; exact subA), subA⟩
    | true =>
      rw [hA] at hnx
      repeat' (first | refine zac ?_ | refine zaa ?_ | ((first | refine zab ?_ | refine zaf ?_ ); (first | change W _ _ _ _ _ | change Exists _ )) | (refine isRL ?_; first | refine uMv ?_ | refine uAs ?_ | (refine isBin ?_; first | refine uIb ?_ | refine uBb true ?_ ) | (refine isLd ?_; first | refine uLp ?_ | refine uL1 ?_ ) | (refine isCl ?_; first | refine uC (hEl) ?_ ) | (refine isFa ?_; first | refine uP ?_) | (refine isSt ?_; first | refine uSw ?_ ) | refine uX ?_ | refine uP ?_ | refine uN ?_ ) | refine zad ?_ | refine wT fun _ => ?_ )
      exact ⟨i + 1, by omega, by omega, (by simp only [hnx]; exact subA), subA⟩
  · obtain rfl : i = g.nodes.length := by omega
    rw [List.take_length]
    repeat' (first | refine zac ?_ | refine zaa ?_ | ((first | refine zab ?_ | refine zaD ?_ ); (first | change W _ _ _ _ _ )) | (refine isRL ?_; first | refine uMv ?_ | (refine isBin ?_; first | refine uBb false ?_ ) | (refine isLd ?_; first | refine uL1 ?_ ) | (refine isCl ?_; first | refine uP ?_) | (refine isFa ?_; first | refine uP ?_) ) | refine zad ?_ | refine wF fun _ => ?_ )
    refine zaL (α := Nat) (fun i => [(3, .one (.po 1000 0)), (1, .one (.po 1 0)), (4, vB ((g.edges.take i).all (edgeR g) && g.nodes.all nodeR)), (60, vL (g.edges.map encEd)), (61, vI ((g.edges.map encEd).length : Int)), (62, vI i)]) (fun _ => [(1, .box 25 [.sl (g.nodes.map encNd), .sl (g.edges.map encEd)]), (1000, .obj 120 [.d (.sl (g.nodes.map encNd)), .d (.sl (g.edges.map encEd)), .mr 1001, .mr 1002, .d (.sl [])]), (1001, .mp M1), (1002, .mp M2)]) (fun i => i ≤ g.edges.length) (fun i => g.edges.length - i) 0 (Nat.zero_le _) subA subA ?_
    intro j hj
    by_cases hjt : j < g.edges.length
    · obtain ⟨q, hq⟩ : ∃ q, g.edges[j]? = some q := ⟨_, List.getElem?_eq_getElem hjt⟩
      have hEl := zfk q.name q.labels q.props (hE q (List.mem_of_getElem? hq))
      have hnx : ((g.edges.take (j + 1)).all (edgeR g) && g.nodes.all nodeR) = (((g.edges.take j).all (edgeR g) && g.nodes.all nodeR) && edgeR g q) := by
        rw [zgX hq]
        cases (g.edges.take j).all (edgeR g) <;> cases edgeR g q <;> cases g.nodes.all nodeR <;> rfl
      have h3 := hIs q.src
      have h4 := hIs q.dst
      have hed : edgeR g q = (elementR q.name q.labels q.props && inN g q.src && inN g q.dst) := rfl
      change CallsM _ _ _ _ (vB (inN g q.src)) _ at h3
      change CallsM _ _ _ _ (vB (inN g q.dst)) _ at h4
      generalize hA : ((g.edges.take j).all (edgeR g) && g.nodes.all nodeR) = A at hnx
      generalize elementR q.name q.labels q.props = e1 at hEl hed
      generalize inN g q.src = e2 at h3 hed
      generalize inN g q.dst = e3 at h4 hed
      rw [hed] at hnx
      cases A <;> cases e1 <;> cases e2
      all_goals
        repeat' (first | refine zac ?_ | refine zaa ?_ | ((first | refine zab ?_ | refine zaf ?_ ); (first | change W _ _ _ _ _ | change Exists _ )) | (refine isRL ?_; first | refine uMv ?_ | refine uAs ?_ | refine uO ?_ | (refine isBin ?_; first | refine uIb ?_ | refine uBb true ?_ ) | (refine isLd ?_; first | refine uLp ?_ | refine uL1 ?_ ) | (refine isCl ?_; first | refine uC (hEl) ?_ | refine uM (h3) ?_ | refine uM (h4) ?_ ) | (refine isFa ?_; first | refine uP ?_) | (refine isSt ?_; first | refine uSw ?_ ) | refine uX ?_ | refine uP ?_ | refine uN ?_ ) | refine zad ?_ | refine wT fun _ => ?_ )
        exact ⟨j + 1, by omega, by omega, (by simp only [hnx]; exact subA), subA⟩
    · obtain rfl : j = g.edges.length := by omega
      rw [List.take_length]
      cases hf : (g.edges.all (edgeR g) && g.nodes.all nodeR) with
      | false =>
        repeat' (first | refine zac ?_ | refine zaa ?_ | ((first | refine zab ?_ | refine zaD ?_ | refine zae ?_ ); (first | change W _ _ _ _ _ | skip)) | (refine isRL ?_; first | refine uMv ?_ | refine uAs ?_ | (refine isBin ?_; first | refine uBb false ?_ ) | refine uBu true ?_ ) | refine wT fun _ => ?_ | refine wF fun _ => ?_ )
        exact zah (by rfl) (by rw [if_neg (by rw [Bool.and_eq_false_iff] at hf; rcases hf with h | h <;> simp [h])]; rfl)
      | true =>
        repeat' (first | refine zac ?_ | refine zaa ?_ | ((first | refine zab ?_ | refine zaf ?_ | refine zaD ?_ | refine zae ?_ ); (first | change W _ _ _ _ _ | change EndQ _ _ _ _ _ _ )) | (refine isRL ?_; first | refine uMv ?_ | refine uAs ?_ | (refine isBin ?_; first | refine uBb false ?_ ) | refine uBu false ?_ ) | refine wF fun _ => ?_ )
        exact zah (by rfl) (by rw [Bool.and_eq_true] at hf; rw [if_pos (by simp [hf.1, hf.2])]; rfl)
end Go.Proofs.YtjhkehloipmjfaaGreat
