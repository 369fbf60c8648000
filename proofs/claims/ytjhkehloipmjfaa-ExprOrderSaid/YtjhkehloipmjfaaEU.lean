/- Plain laws of expressions: not, and, or; what holds; what spoils. -/
import Derived.Test.YtjhkehloipmjfaaEN
namespace Go.Proofs.Ytjhkehloipmjfaa
theorem rightE_of {e : E} (h : exprRight e = true) : rightE e = true := by
  rw [exprRight_dE, Bool.and_eq_true] at h; exact h.2
/-- whichever of both operators it is -/
def isAO (s : ByteArray) : Prop := s = nAnd ∨ s = nOr
theorem isAO.kids {s : ByteArray} (h : isAO s) : opKids s = 2 := by rcases h with rfl | rfl <;> first | exact opKids_and | exact opKids_or
end Go.Proofs.Ytjhkehloipmjfaa
/- Plain laws of expressions: which properties are asked for; how many parts there are. -/
namespace Go.Proofs.Ytjhkehloipmjfaa
/-! ### parts -/
def sizeE : E → Nat := foldE fun _ ks => ks.foldl (· + ·) 0 + 1
theorem sizeE_eq (e : E) : sizeE e = e.kids.foldl (fun n k => n + sizeE k) 0 + 1 := by
  unfold sizeE; rw [foldE_eq, List.foldl_map]
theorem foldl_ge (f : E → Nat) : ∀ (l : List E) (a : Nat), a ≤ l.foldl (fun n k => n + f k) a
  | [], _ => Nat.le_refl _
  | x :: l, a => by rw [List.foldl_cons]; exact Nat.le_trans (Nat.le_add_right _ _) (foldl_ge f l _)
theorem foldl_mem (f : E → Nat) : ∀ (l : List E) (a : Nat), ∀ x ∈ l, f x ≤ l.foldl (fun n k => n + f k) a
  | [], _, x, h => by cases h
  | y :: l, a, x, h => by
    rw [List.foldl_cons]
    rcases List.mem_cons.1 h with rfl | h
    · exact Nat.le_trans (Nat.le_add_left _ _) (foldl_ge f l _)
    · exact foldl_mem f l _ x h
theorem sizeE_kid {e k : E} (h : k ∈ e.kids) : sizeE k < sizeE e := by
  rw [sizeE_eq e]
  have := foldl_mem sizeE e.kids 0 k h
  omega
theorem count_fold (B : Nat) (hB : B ≤ 4611686018427387904) : ∀ (l : List E) (a : Nat), (∀ k ∈ l, countE k = (sizeE k : Int)) → l.foldl (fun n k => n + sizeE k) a ≤ B → l.foldl (fun n k => IntKind.i64.wrap (n + countE k)) (a : Int) = ((l.foldl (fun n k => n + sizeE k) a : Nat) : Int)
  | [], a, _, _ => rfl
  | k :: l, a, h, hb => by
    rw [List.foldl_cons] at hb ⊢
    rw [List.foldl_cons, h k (by simp)]
    have hge := foldl_ge sizeE l (a + sizeE k)
    rw [wrap_i64 (by omega) (by omega), show (a : Int) + (sizeE k : Int) = ((a + sizeE k : Nat) : Int) by omega]
    exact count_fold B hB l _ (fun q hq => h q (by simp [hq])) hb
theorem foldl_shift (f : E → Nat) : ∀ (l : List E) (a b : Nat), l.foldl (fun n k => n + f k) (a + b) = l.foldl (fun n k => n + f k) a + b
  | [], _, _ => rfl
  | x :: l, a, b => by
    rw [List.foldl_cons, List.foldl_cons, show a + b + f x = (a + f x) + b by omega]
    exact foldl_shift f l _ _
theorem count_size : ∀ e : E, sizeE e ≤ 4611686018427387904 → countE e = (sizeE e : Int) := E.ind fun e ih hs => by
  rw [countE_eq, sizeE_eq]
  have hs' := hs
  rw [sizeE_eq] at hs'
  have h1 : e.kids.foldl (fun n k => n + sizeE k) 0 + 1 = e.kids.foldl (fun n k => n + sizeE k) 1 := by
    have := foldl_shift sizeE e.kids 0 1
    rw [Nat.zero_add] at this
    exact this.symm
  have := count_fold 4611686018427387904 (Nat.le_refl _) e.kids 1 (fun k hk => ih k hk (Nat.le_trans (Nat.le_of_lt (sizeE_kid hk)) hs)) (by omega)
  rw [h1]
  exact this
theorem dE_kid {e k : E} (h : k ∈ e.kids) : dE k + 1 ≤ dE e := by
  have key : ∀ (l : List E) (a : Nat), a ≤ l.foldl (fun d k => max d (dE k)) a ∧ ∀ x ∈ l, dE x ≤ l.foldl (fun d k => max d (dE k)) a := by
    intro l
    induction l with
    | nil => intro a; exact ⟨Nat.le_refl _, fun x h => by cases h⟩
    | cons y l ih =>
      intro a
      rw [List.foldl_cons]
      obtain ⟨h1, h2⟩ := ih (max a (dE y))
      refine ⟨by omega, fun x hx => ?_⟩
      rcases List.mem_cons.1 hx with rfl | hx
      · omega
      · exact h2 x hx
  rw [dE_eq e]
  have := (key e.kids 0).2 k h
  omega
theorem size_right : ∀ e : E, rightE e = true → sizeE e < 2 ^ dE e := E.ind fun e ih hr => by
  have hp := dE_pos e
  have hempty : e.kids = [] → sizeE e < 2 ^ dE e := fun h => by
    rw [sizeE_eq, h]
    have : 2 ^ 1 ≤ 2 ^ dE e := Nat.pow_le_pow_right (by decide) hp
    simp only [List.foldl_nil]; omega
  rw [rightE_eq] at hr
  split at hr
  · simp only [Bool.and_eq_true, List.isEmpty_iff] at hr; exact hempty hr.1.2
  · split at hr
    · simp only [Bool.and_eq_true, List.isEmpty_iff] at hr; exact hempty hr.1.2
    · split at hr
      · simp only [Bool.and_eq_true, decide_eq_true_eq] at hr
        obtain ⟨⟨⟨_, hop⟩, hlen⟩, hall⟩ := hr
        have hk := kids_of e.name hop
        have hle : e.kids.length ≤ 2 := by rw [hk] at hlen; split at hlen <;> omega
        obtain ⟨m, hm⟩ : ∃ m, dE e = m + 1 := ⟨dE e - 1, by omega⟩
        have hq : ∀ k ∈ e.kids, sizeE k + 1 ≤ 2 ^ m := fun k hk => by
          have h1 := ih k hk (List.all_eq_true.1 hall k hk)
          have h2 : 2 ^ dE k ≤ 2 ^ m := Nat.pow_le_pow_right (by decide) (by have := dE_kid hk; omega)
          omega
        rw [sizeE_eq, hm, Nat.pow_succ]
        match hks : e.kids, hle with
        | [], _ => have := Nat.two_pow_pos m; simp only [List.foldl_nil]; omega
        | [a], _ => have := hq a (by rw [hks]; simp); simp only [List.foldl_cons, List.foldl_nil]; omega
        | [a, b], _ =>
          have h1 := hq a (by rw [hks]; simp)
          have h2 := hq b (by rw [hks]; simp)
          simp only [List.foldl_cons, List.foldl_nil]; omega
        | _ :: _ :: _ :: _, h => simp only [List.length_cons] at h; omega
      · cases hr
theorem size_few {e : E} (hr : exprRight e = true) (hc : ¬ countE e > 300) : sizeE e ≤ 300 := by
  rw [exprRight_dE, Bool.and_eq_true, decide_eq_true_eq] at hr
  have h1 := size_right e hr.2
  have h2 : 2 ^ dE e ≤ 2 ^ 50 := Nat.pow_le_pow_right (by decide) hr.1
  have h3 : (2 : Nat) ^ 50 = 1125899906842624 := by decide
  have := count_size e (by omega)
  omega
/-! ### names -/
def namesE : E → List ByteArray := foldE fun e ks => (if e.kind = 2 then [e.name] else []) ++ ks.flatten
theorem namesE_eq (e : E) : namesE e = (if e.kind = 2 then [e.name] else []) ++ e.kids.flatMap namesE := by
  unfold namesE; rw [foldE_eq]; rfl
theorem flat_len (l : List E) (h : ∀ k ∈ l, (namesE k).length ≤ sizeE k) : ∀ a : Nat, (l.flatMap namesE).length + a ≤ l.foldl (fun n k => n + sizeE k) a := by
  induction l with
  | nil => intro a; simp
  | cons k l ih =>
    intro a
    rw [List.foldl_cons, List.flatMap_cons, List.length_append]
    have h1 := h k (by simp)
    have h2 := ih (fun q hq => h q (by simp [hq])) (a + sizeE k)
    omega
theorem names_len : ∀ e : E, (namesE e).length ≤ sizeE e := E.ind fun e ih => by
  rw [namesE_eq, sizeE_eq, List.length_append]
  have := flat_len e.kids ih 0
  split <;> simp only [List.length_cons, List.length_nil] <;> omega
theorem eval_names {ps qs : List Pr} : ∀ e : E, (∀ s ∈ namesE e, look1 ps s = look1 qs s) → evalE ps e = evalE qs e := E.ind fun e ih h => by
  rw [namesE_eq] at h
  rw [evalE_eq, evalE_eq]
  by_cases k1 : e.kind = 1
  · rw [if_pos k1, if_pos k1]
  rw [if_neg k1, if_neg k1]
  by_cases k2 : e.kind = 2
  · rw [if_pos k2, if_pos k2, h e.name (by rw [if_pos k2]; simp)]
  rw [if_neg k2, if_neg k2]
  have : e.kids.map (evalE ps) = e.kids.map (evalE qs) := List.map_congr_left fun k hk => ih k hk fun s hs => h s (List.mem_append_right _ (List.mem_flatMap.2 ⟨k, hk, hs⟩))
  rw [this]
theorem look1_app (l : List Pr) (p : Pr) (s : ByteArray) (h : (∃ q ∈ l, eqL q.name s = true) ∨ eqL p.name s = false) : look1 (l ++ [p]) s = look1 l s := by
  unfold look1
  rw [List.find?_append]
  cases hf : l.find? (fun p => eqL p.name s) with
  | some q => rfl
  | none =>
    rw [List.find?_eq_none] at hf
    rcases h with ⟨q, hq, he⟩ | h
    · exact absurd he (hf q hq)
    · rw [List.find?_cons_of_neg (by rw [h]; decide)]; rfl
theorem fix_name (p : Pr) : (fixP p).name = p.name := by unfold fixP; split <;> rfl
theorem props_law {e : E} (ps : List Pr) (p : Pr) (h : (namesE e).any (fun s => eqL s p.name) = true → ps.any (fun q => eqL q.name p.name) = true) : evalR (ps ++ [p]) e = evalR ps e := by
  unfold evalR
  rw [eval_names e fun s hs => look1_app ps p s ?_]
  by_cases hn : eqL p.name s = true
  · have hs' : p.name = s := eq_of_eqL hn
    obtain ⟨q, hq, hqe⟩ := List.any_eq_true.1 (h (List.any_eq_true.2 ⟨s, hs, by rw [hs']; unfold eqL; simp⟩))
    exact .inl ⟨q, hq, by rw [← hs']; exact hqe⟩
  · exact .inr (Bool.eq_false_iff.2 hn)
end Go.Proofs.Ytjhkehloipmjfaa
