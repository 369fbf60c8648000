/- A pattern's machine: how many states and moves, and that its moves lead where there are states. No program in sight. -/
import Derived.Test.YtjhkehloipmjfaaGreatQ0
import Derived.Test.YtjhkehloipmjfaaGreatGS
import Derived.Test.YtjhkehloipmjfaaGreatG3
import Derived.Test.YtjhkehloipmjfaaGreatMF
set_option maxRecDepth 100000
set_option maxHeartbeats 4000000
namespace Go.Proofs.YtjhkehloipmjfaaGreat
open Go.RowKit
def stP : Pt → Nat := foldP fun p ks => (if p.kind = 3 then p.kids.length - 1 else if p.kind = 5 ∧ p.max < 0 then 1 else 0) + ks.sum
theorem zmc (p : Pt) : stP p = (if p.kind = 3 then p.kids.length - 1 else if p.kind = 5 ∧ p.max < 0 then 1 else 0) + (p.kids.map stP).sum := by unfold stP; rw [za8]
def frP : Pt → Nat := foldP fun p ks => (if p.kind = 5 then (if p.max < 0 then 2 else 1) else 0) + ks.sum
theorem zl9 (p : Pt) : frP p = (if p.kind = 5 then (if p.max < 0 then 2 else 1) else 0) + (p.kids.map frP).sum := by unfold frP; rw [za8]
structure Cn (s f : Nat) (l : List Pt) (m m' : Mach) : Prop where
  st : m'.states = m.states + s
  mv : m'.moves.length = m.moves.length + l.length + f
  el : m'.elems = m.elems ++ l
theorem zfc : ∀ (p : Pt) (s t : Int) (m : Mach), shapeP p = true → Cn (stP p) (frP p) (elems p) m (layM p s t m) := Pt.ind fun p ih s t m hs => by
  have hsk := zbv hs
  have h1 := zmc p
  have h2 := zl9 p
  have h3 := zdz p
  have hup : ∀ (l : List Pt), (∀ k ∈ l, k ∈ p.kids) → ∀ (x : Int × Mach), Cn ((l.map stP).sum + l.length) ((l.map frP).sum) (l.flatMap elems) x.2 (l.foldl upP x).2 := by
    intro l
    induction l with
    | nil => intro _ x; exact ⟨by simp, by simp, by simp⟩
    | cons k l ihl =>
      intro hl x
      rw [List.foldl_cons, List.map_cons, List.sum_cons, List.map_cons, List.sum_cons, List.flatMap_cons, List.length_cons]
      obtain ⟨a1, a2, a3⟩ := ih k (hl k List.mem_cons_self) x.1 x.2.states (stM x.2) (hsk k (hl k List.mem_cons_self))
      obtain ⟨b1, b2, b3⟩ := ihl (fun y hy => hl y (List.mem_cons_of_mem _ hy)) (upP x k)
      simp only [upP, upM, stM] at *
      refine ⟨by omega, by rw [List.length_append]; omega, by rw [b3, a3, List.append_assoc]⟩
  have halt : ∀ (l : List Pt), (∀ k ∈ l, k ∈ p.kids) → ∀ (m : Mach), Cn ((l.map stP).sum) ((l.map frP).sum) (l.flatMap elems) m (l.foldl (fun m k => layM k s t m) m) := by
    intro l
    induction l with
    | nil => intro _ x; exact ⟨by simp, by simp, by simp⟩
    | cons k l ihl =>
      intro hl x
      rw [List.foldl_cons, List.map_cons, List.sum_cons, List.map_cons, List.sum_cons, List.flatMap_cons]
      obtain ⟨a1, a2, a3⟩ := ih k (hl k List.mem_cons_self) s t x (hsk k (hl k List.mem_cons_self))
      obtain ⟨b1, b2, b3⟩ := ihl (fun y hy => hl y (List.mem_cons_of_mem _ hy)) (layM k s t x)
      refine ⟨by omega, by rw [List.length_append]; omega, by rw [b3, a3, List.append_assoc]⟩
  rcases zbC hs with ⟨hk, hk0⟩ | ⟨hk, hne⟩ | ⟨hk, ⟨k, hkk⟩, hm⟩
  · rw [if_pos (by unfold isElem; rcases hk with hk | hk <;> simp [hk])] at h3
    rw [if_neg (by omega), if_neg (by omega), hk0] at h1
    rw [if_neg (by omega), hk0] at h2
    rw [zb9 hk, h1, h2, h3]
    exact ⟨by simp [elM, mvM], by simp [elM, mvM], rfl⟩
  · rw [if_neg (by unfold isElem; rcases hk with hk | hk <;> simp [hk])] at h3
    rw [if_neg (by omega)] at h2
    by_cases k3 : p.kind = 3
    · rw [if_pos k3] at h1
      have hlen : 0 < p.kids.length := List.length_pos_iff.2 hne
      obtain ⟨k, hkl⟩ : ∃ k, p.kids[p.kids.length - 1]? = some k := ⟨_, List.getElem?_eq_getElem (by omega)⟩
      rw [zc1 k3 hkl]
      have hm := List.mem_of_getElem? hkl
      obtain ⟨a1, a2, a3⟩ := ih k hm ((p.kids.take (p.kids.length - 1)).foldl upP (s, m)).1 t ((p.kids.take (p.kids.length - 1)).foldl upP (s, m)).2 (hsk k hm)
      obtain ⟨b1, b2, b3⟩ := hup (p.kids.take (p.kids.length - 1)) (fun y hy => List.mem_of_mem_take hy) (s, m)
      have hsp : p.kids = p.kids.take (p.kids.length - 1) ++ [k] := by
        conv => lhs; rw [← List.take_append_drop (p.kids.length - 1) p.kids]
        congr 1
        rw [List.drop_eq_getElem_cons (by omega), (List.getElem?_eq_some_iff.1 hkl).2, List.drop_eq_nil_of_le (by omega)]
      have e1 : (p.kids.map stP).sum = ((p.kids.take (p.kids.length - 1)).map stP).sum + stP k := by
        conv => lhs; rw [hsp]
        rw [List.map_append, List.sum_append]; simp
      have e2 : (p.kids.map frP).sum = ((p.kids.take (p.kids.length - 1)).map frP).sum + frP k := by
        conv => lhs; rw [hsp]
        rw [List.map_append, List.sum_append]; simp
      have e3 : p.kids.flatMap elems = (p.kids.take (p.kids.length - 1)).flatMap elems ++ elems k := by
        conv => lhs; rw [hsp]
        rw [List.flatMap_append]; simp
      have e4 : (p.kids.take (p.kids.length - 1)).length = p.kids.length - 1 := by rw [List.length_take]; omega
      rw [e3] at h3
      rw [h3]
      simp only at b1 b2 b3
      refine ⟨by omega, by rw [List.length_append]; omega, by rw [a3, b3, List.append_assoc]⟩
    · rw [if_neg k3, if_neg (by omega)] at h1
      rw [zcY (by omega), h3]
      obtain ⟨b1, b2, b3⟩ := halt p.kids (fun _ h => h) m
      refine ⟨by omega, by omega, b3⟩
  · rw [if_neg (by unfold isElem; simp [hk]), hkk] at h3
    rw [if_pos hk, hkk] at h2
    rw [if_neg (by omega), hkk] at h1
    simp only [List.map_cons, List.map_nil, List.sum_cons, List.sum_nil, Nat.add_zero, List.flatMap_cons, List.flatMap_nil, List.append_nil] at h1 h2 h3
    have hmem : k ∈ p.kids := by rw [hkk]; exact List.mem_cons_self
    rw [h3]
    rcases hm with hm | hm
    · rw [if_neg (by omega)] at h1
      rw [if_neg (by omega)] at h2
      rw [zc0 hk hkk hm]
      obtain ⟨a1, a2, a3⟩ := ih k hmem s t (mvM s t (-1) m) (hsk k hmem)
      generalize layM k s t (mvM s t (-1) m) = m' at a1 a2 a3 ⊢
      simp only [mvM, List.length_append, List.length_singleton] at a1 a2 a3
      refine ⟨by omega, by omega, a3⟩
    · rw [if_pos ⟨hk, by omega⟩] at h1
      rw [if_pos (by omega)] at h2
      rw [zb7 hk hkk (by omega)]
      obtain ⟨a1, a2, a3⟩ := ih k hmem m.states m.states (mvM s m.states (-1) (stM m)) (hsk k hmem)
      generalize layM k m.states m.states (mvM s m.states (-1) (stM m)) = m' at a1 a2 a3 ⊢
      simp only [mvM, stM, List.length_append, List.length_singleton] at a1 a2 a3
      refine ⟨by simp only [mvM]; omega, by simp only [mvM, List.length_append, List.length_singleton]; omega, a3⟩
def isEl (v : Mv) : Bool := decide (0 ≤ v.elem)
def cntM (l : List Mv) : Nat := (l.filter isEl).length
theorem zhP (a b : List Mv) : cntM (a ++ b) = cntM a + cntM b := by unfold cntM; rw [List.filter_append, List.length_append]
structure Inv (m : Mach) : Prop where
  st : 2 ≤ m.states
  mv : ∀ v ∈ m.moves, 0 ≤ v.src ∧ v.src < m.states ∧ 0 ≤ v.dst ∧ v.dst < m.states ∧ v.src ≠ 1 ∧ -1 ≤ v.elem ∧ v.elem < m.elems.length
  ord : ∀ (i : Nat) (v : Mv), m.moves[i]? = some v → 0 ≤ v.elem → v.elem = cntM (m.moves.take i)
  cnt : cntM m.moves = m.elems.length
theorem zgA {m : Mach} {s t : Int} (h : Inv m) (hs : 0 ≤ s ∧ s < m.states ∧ s ≠ 1) (ht : 0 ≤ t ∧ t < m.states) : Inv (mvM s t (-1) m) := by
  obtain ⟨h1, h2, h3, h4⟩ := h
  refine ⟨h1, fun v hv => ?_, fun i v hv h0 => ?_, ?_⟩
  · rcases List.mem_append.1 hv with hv | hv
    · exact h2 v hv
    · obtain rfl := List.mem_singleton.1 hv
      show 0 ≤ s ∧ s < m.states ∧ 0 ≤ t ∧ t < m.states ∧ s ≠ 1 ∧ (-1 : Int) ≤ -1 ∧ (-1 : Int) < m.elems.length
      omega
  · simp only [mvM] at hv ⊢
    by_cases hi : i < m.moves.length
    · rw [List.getElem?_append_left hi] at hv
      rw [h3 i v hv h0, List.take_append_of_le_length (by omega)]
    · rw [List.getElem?_append_right (by omega)] at hv
      obtain rfl := List.mem_singleton.1 (List.mem_of_getElem? hv)
      exact absurd (show (0 : Int) ≤ -1 from h0) (by decide)
  · simp only [mvM]
    rw [zhP, h4]; rfl
theorem zmm {m : Mach} {s t : Int} {p : Pt} (h : Inv m) (hs : 0 ≤ s ∧ s < m.states ∧ s ≠ 1) (ht : 0 ≤ t ∧ t < m.states) : Inv (elM p (mvM s t m.elems.length m)) := by
  obtain ⟨h1, h2, h3, h4⟩ := h
  refine ⟨h1, fun v hv => ?_, fun i v hv h0 => ?_, ?_⟩
  · simp only [elM, mvM, List.length_append, List.length_singleton] at hv ⊢
    rcases List.mem_append.1 hv with hv | hv
    · have := h2 v hv; omega
    · obtain rfl := List.mem_singleton.1 hv
      show 0 ≤ s ∧ s < m.states ∧ 0 ≤ t ∧ t < m.states ∧ s ≠ 1 ∧ (-1 : Int) ≤ m.elems.length ∧ (m.elems.length : Int) < ((m.elems.length + 1 : Nat) : Int)
      omega
  · simp only [elM, mvM] at hv ⊢
    by_cases hi : i < m.moves.length
    · rw [List.getElem?_append_left hi] at hv
      rw [h3 i v hv h0, List.take_append_of_le_length (by omega)]
    · rw [List.getElem?_append_right (by omega)] at hv
      have hi0 : i = m.moves.length := by
        have := (List.getElem?_eq_some_iff.1 hv).1
        simp only [List.length_singleton] at this; omega
      obtain rfl := List.mem_singleton.1 (List.mem_of_getElem? hv)
      subst hi0
      rw [List.take_left, h4]
  · simp only [elM, mvM, List.length_append, List.length_singleton]
    rw [zhP, h4]
    unfold cntM
    rw [List.filter_cons, if_pos (by unfold isEl; simp)]; rfl
theorem zjp {m : Mach} (h : Inv m) : Inv (stM m) := by
  obtain ⟨h1, h2, h3, h4⟩ := h
  exact ⟨by simp only [stM]; omega, fun v hv => by have := h2 v hv; simp only [stM]; omega, h3, h4⟩
theorem zlo : ∀ (p : Pt) (s t : Int) (m : Mach), shapeP p = true → Inv m → (0 ≤ s ∧ s < m.states ∧ s ≠ 1) → (0 ≤ t ∧ t < m.states) → Inv (layM p s t m) := Pt.ind fun p ih s t m hs h hst htt => by
  have hsk := zbv hs
  have hup : ∀ (l : List Pt), (∀ k ∈ l, k ∈ p.kids) → ∀ (x : Int × Mach), Inv x.2 → (0 ≤ x.1 ∧ x.1 < x.2.states ∧ x.1 ≠ 1) → m.states ≤ x.2.states → Inv (l.foldl upP x).2 ∧ (0 ≤ (l.foldl upP x).1 ∧ (l.foldl upP x).1 < (l.foldl upP x).2.states ∧ (l.foldl upP x).1 ≠ 1) ∧ m.states ≤ (l.foldl upP x).2.states := by
    intro l
    induction l with
    | nil => intro _ x h1 h2 h3; exact ⟨h1, h2, h3⟩
    | cons k l ihl =>
      intro hl x h1 h2 h3
      rw [List.foldl_cons]
      have hk := hsk k (hl k List.mem_cons_self)
      have a := ih k (hl k List.mem_cons_self) x.1 x.2.states (stM x.2) hk (zjp h1) (by simp only [stM]; omega) (by have := h1.st; simp only [stM]; omega)
      obtain ⟨⟨_, _, a3, _⟩, _⟩ := zcg k x.1 x.2.states (stM x.2) hk
      have hst2 := h1.st
      simp only [stM] at a3
      exact ihl (fun y hy => hl y (List.mem_cons_of_mem _ hy)) (upP x k) a (by simp only [upP, upM, stM]; omega) (by simp only [upP, upM, stM]; omega)
  have halt : ∀ (l : List Pt), (∀ k ∈ l, k ∈ p.kids) → ∀ (m' : Mach), Inv m' → m.states ≤ m'.states → Inv (l.foldl (fun m k => layM k s t m) m') := by
    intro l
    induction l with
    | nil => intro _ x h1 _; exact h1
    | cons k l ihl =>
      intro hl x h1 h2
      rw [List.foldl_cons]
      have hk := hsk k (hl k List.mem_cons_self)
      obtain ⟨⟨_, _, a3, _⟩, _⟩ := zcg k s t x hk
      exact ihl (fun y hy => hl y (List.mem_cons_of_mem _ hy)) (layM k s t x) (ih k (hl k List.mem_cons_self) s t x hk h1 (by omega) (by omega)) (by omega)
  rcases zbC hs with ⟨hk, hk0⟩ | ⟨hk, hne⟩ | ⟨hk, ⟨k, hkk⟩, hm⟩
  · rw [zb9 hk]; exact zmm h hst htt
  · by_cases k3 : p.kind = 3
    · have hlen : 0 < p.kids.length := List.length_pos_iff.2 hne
      obtain ⟨k, hkl⟩ : ∃ k, p.kids[p.kids.length - 1]? = some k := ⟨_, List.getElem?_eq_getElem (by omega)⟩
      rw [zc1 k3 hkl]
      obtain ⟨a1, a2, a3⟩ := hup (p.kids.take (p.kids.length - 1)) (fun y hy => List.mem_of_mem_take hy) (s, m) h hst (Int.le_refl _)
      have hmm := List.mem_of_getElem? hkl
      exact ih k hmm _ t _ (hsk k hmm) a1 a2 (by omega)
    · rw [zcY (by omega)]
      exact halt p.kids (fun _ h => h) m h (Int.le_refl _)
  · have hmem : k ∈ p.kids := by rw [hkk]; exact List.mem_cons_self
    rcases hm with hm | hm
    · rw [zc0 hk hkk hm]
      exact ih k hmem s t _ (hsk k hmem) (zgA h hst htt) hst htt
    · rw [zb7 hk hkk (by omega)]
      have hst2 := h.st
      have h1 : Inv (mvM s m.states (-1) (stM m)) := zgA (zjp h) (by simp only [stM]; omega) (by simp only [stM]; omega)
      obtain ⟨⟨_, _, a3, _⟩, _⟩ := zcg k m.states m.states (mvM s m.states (-1) (stM m)) (hsk k hmem)
      simp only [mvM, stM] at a3
      have h2 := ih k hmem m.states m.states (mvM s m.states (-1) (stM m)) (hsk k hmem) h1 (by simp only [mvM, stM]; omega) (by simp only [mvM, stM]; omega)
      exact zgA h2 (by simp only [mvM, stM]; omega) (by simp only [mvM, stM]; omega)
theorem zj9 : Inv ⟨[], [], 2⟩ := ⟨by decide, fun v hv => absurd hv List.not_mem_nil, fun i v hv _ => absurd (List.mem_of_getElem? hv) List.not_mem_nil, rfl⟩
theorem ziO {p : Pt} (h : shapeP p = true) : Inv (buildM p) := zlo p 0 1 ⟨[], [], 2⟩ h zj9 (by decide) (by decide)
end Go.Proofs.YtjhkehloipmjfaaGreat
namespace Go.Proofs.YtjhkehloipmjfaaGreat
open Go.RowKit
theorem zex {l : List Pt} {q : Pt} {i : Nat} (hq : l[i]? = some q) : (l.take (i + 1)).flatMap elems = (l.take i).flatMap elems ++ elems q := by
  rw [List.take_add_one, hq, Option.toList_some, List.flatMap_append, List.flatMap_singleton]
theorem zjP {l : List Pt} {q : Pt} {i : Nat} (hq : l[i]? = some q) : ((l.take i).flatMap elems).length + (elems q).length ≤ (l.flatMap elems).length := by
  have h : l.flatMap elems = (l.take (i + 1)).flatMap elems ++ (l.drop (i + 1)).flatMap elems := by rw [← List.flatMap_append, List.take_append_drop]
  rw [h, zex hq, List.length_append, List.length_append]; omega
theorem zkn : ∀ p : Pt, (elems p).length ≤ 1000000 → CallsV Tryz.prog 31 [.dat (encP p)] (.val (vL ((elems p).map encP))) := Pt.ind fun p ih hb => by
  have hlm : (p.kids.map encP).length = p.kids.length := List.length_map _
  (refine zaj (Ty := Ty) zag Tryz.func31 rfl rfl rfl fun w0 S0 => ?_; simp only [argsF, List.zipIdx_cons, List.zipIdx_nil, List.map_cons, List.map_nil, Nat.zero_add])
  by_cases k1 : p.kind = 1
  · repeat (first | refine zac ?_ | refine zaa ?_ | ((first | refine zab ?_ | refine zae ?_); (first | change W _ _ _ _ _ | skip)) | (refine isRL ?_; first | refine uMv ?_ | refine uAs ?_ | refine uO ?_ | (refine isBin ?_; first | refine uBb true ?_ ) | (refine isLd ?_; first | refine uLb ?_ | refine uL1 ?_ ) | (refine isFa ?_; first | refine uP ?_) | refine uBs ?_ | refine uP ?_ | refine uBx ?_ ) | refine wT fun _ => ?_ )
    exact zah (by rfl) (by rw [zdz, if_pos (by unfold isElem; simp [k1])]; rfl)
  by_cases k2 : p.kind = 2
  · repeat (first | refine zac ?_ | refine zaa ?_ | ((first | refine zab ?_ | refine zae ?_); (first | change W _ _ _ _ _ | skip)) | (refine isRL ?_; first | refine uMv ?_ | refine uAs ?_ | (refine isBin ?_; first | refine uBb true ?_ | refine uBb false ?_ ) | (refine isLd ?_; first | refine uLb ?_ | refine uL1 ?_ ) | (refine isFa ?_; first | refine uP ?_) | refine uBs ?_ | refine uP ?_ | refine uBx ?_ ) | refine wT fun _ => ?_ )
    exact zah (by rfl) (by rw [zdz, if_pos (by unfold isElem; simp [k2])]; rfl)
  have hdef : elems p = p.kids.flatMap elems := by rw [zdz, if_neg (by unfold isElem; simp [k1, k2])]
  rw [hdef] at hb
  repeat (first | refine zac ?_ | refine zaa ?_ | ((first | refine zab ?_ | refine zaf ?_ ); (first | change W _ _ _ _ _ )) | (refine isRL ?_; first | refine uMv ?_ | refine uAs ?_ | (refine isBin ?_; first | refine uBb false ?_ ) | (refine isLd ?_; first | refine uL1 ?_ ) | (refine isFa ?_; first | refine uP ?_) | refine uP ?_ | refine uBx ?_ ) | refine zad ?_ | refine wF fun _ => ?_)
  refine uNil 3 100 34 20 ?_
  refine zaL (α := Nat) (fun i => [(1, .one (.po 1 0)), (3, .one (.own 100 (((p.kids.take i).flatMap elems).map encP))), (4, vI i)]) (fun _ => [(1, .box 34 (encP p)), (100, .tok 34 20)]) (fun i => i ≤ p.kids.length) (fun i => p.kids.length - i) 0 (Nat.zero_le _) subA subA ?_
  intro i hi
  refine zfa (k := 1) (j := 19) (rows := p.kids.map encP) rfl (by rw [za9]; rfl) fun hlim => ?_
  by_cases hlt : i < p.kids.length
  · obtain ⟨q, hq⟩ : ∃ q, p.kids[i]? = some q := ⟨_, List.getElem?_eq_getElem hlt⟩
    have hfl := zjP hq
    have hQ := ih q (List.mem_of_getElem? hq) (by omega)
    have hnx' : ((p.kids.take i).flatMap elems).map encP ++ (elems q).map encP = ((p.kids.take (i + 1)).flatMap elems).map encP := by rw [zex hq, List.map_append]
    repeat (first | refine zac ?_ | refine zaa ?_ | ((first | refine zab ?_ | refine zaf ?_ ); (first | change W _ _ _ _ _ | change Exists _ )) | (refine isRL ?_; first | refine uMv ?_ | refine uAs ?_ | (refine isBin ?_; first | refine uIb ?_ | refine uBb true ?_ ) | (refine isLd ?_; first | refine uLp ?_ | refine uL1 ?_ ) | (refine isCl ?_; first | refine uC (hQ) ?_ | refine uP ?_ | refine uAk ?_ ) | (refine isFa ?_; first | refine uP ?_) | refine uX ?_ ) | refine zad ?_ | refine wT fun _ => ?_ )
    exact ⟨i + 1, by omega, hlt, subA, subA⟩
  · have hil : i = p.kids.length := by omega
    subst hil
    rw [List.take_length]
    repeat (first | refine zac ?_ | refine zaa ?_ | ((first | refine zab ?_ | refine zaD ?_ | refine zae ?_); (first | change W _ _ _ _ _ | change EndQ _ _ _ _ _ _ )) | (refine isRL ?_; first | refine uMv ?_ | refine uAs ?_ | (refine isBin ?_; first | refine uBb false ?_ ) | (refine isLd ?_; first | refine uL1 ?_ ) | (refine isCl ?_; first | refine uP ?_ ) | (refine isFa ?_; first | refine uP ?_) ) | refine wF fun _ => ?_)
    exact zah (by rfl) (by rw [hdef])
end Go.Proofs.YtjhkehloipmjfaaGreat
namespace Go.Proofs.YtjhkehloipmjfaaGreat
open Go.RowKit
theorem zhN (n : Int) (c : Nat) (hc : c ≤ 1000) : 0 ≤ (IntKind.i64.wrap ((BitVec.ofInt IntKind.i64.bits n &&& BitVec.ofInt IntKind.i64.bits c).toNat : Nat)) ∧ (IntKind.i64.wrap ((BitVec.ofInt IntKind.i64.bits n &&& BitVec.ofInt IntKind.i64.bits c).toNat : Nat)) ≤ c := by
  have hb : (BitVec.ofInt IntKind.i64.bits n &&& BitVec.ofInt IntKind.i64.bits c).toNat ≤ c := by
    rw [BitVec.toNat_and]
    have : (BitVec.ofInt IntKind.i64.bits c).toNat = c := by
      rw [BitVec.ofInt_natCast, BitVec.toNat_ofNat]
      exact Nat.mod_eq_of_lt (Nat.lt_of_le_of_lt hc (by decide))
    rw [this]
    exact Nat.and_le_right
  generalize (BitVec.ofInt IntKind.i64.bits n &&& BitVec.ofInt IntKind.i64.bits c).toNat = z at hb
  rw [IntWalk.i64_in (z : Int) (by omega)]
  exact ⟨by omega, by omega⟩
section
variable {w0 : W0} {S0 : Nat → Nat → Prop} {nt : Nat} {fr : Fr} {σ : Obs} {o : Oper} {ops : Array Oper} {rest : List Oper} {d : Nat} {t t2 : TypeId} {Q : Fr → Obs → Prop}
theorem uRem {xx yy : Operand} {a b : Int} (h : RL (cx nt w0 S0) ops rest ((d, vI (a.tmod b)) :: fr) σ Q) (ho : o.op = .binOp .rem t xx yy t2 := by rfl) (hdst : o.dst = some d := by rfl) (hd : Nat.blt d nt = true := by rfl) (hw : wantA ops o fr = some true := by rfl) (hx : ev fr xx = some (vI a) := by rfl) (hy : ev fr yy = some (vI b) := by rfl) (hb : b ≠ 0 := by omega) : RL (cx nt w0 S0) ops (o :: rest) fr σ Q :=
  RL_p (X := cx nt w0 S0) (x := vI (a.tmod b)) zag hw hdst hd (by
    unfold aop
    rw [ho]
    simp only [hx, hy, vI, abin, hb, ne_eq, not_false_eq_true, and_self, if_true, Option.map_some]) h
end
theorem zib {a b : Int} (ha : 0 ≤ a) (hb : 0 < b) : 0 ≤ a.tmod b ∧ a.tmod b < b := by
  rw [Int.tmod_eq_emod_of_nonneg ha]
  exact ⟨Int.emod_nonneg _ (by omega), Int.emod_lt_of_pos _ hb⟩
theorem machOk {p : Pt} (hs : shapeP p = true) (hn : nodesP p ≤ 20000) : MachOk (buildM p) (buildM p).states.toNat := by
  have hI := ziO hs
  obtain ⟨⟨a1, a2, a3, a4⟩, a5⟩ := zcg p 0 1 ⟨[], [], 2⟩ hs
  have e : layM p 0 1 ⟨[], [], 2⟩ = buildM p := rfl
  rw [e] at a1 a2 a3 a4 a5
  simp only [List.length_nil] at a1 a2 a3 a4 a5
  have h2 := hI.st
  refine ⟨by omega, by omega, by omega, fun v hv => ?_, fun v hv => ?_⟩
  · have := hI.mv v hv
    omega
  · have := hI.mv v hv
    unfold elemOk
    omega
end Go.Proofs.YtjhkehloipmjfaaGreat
