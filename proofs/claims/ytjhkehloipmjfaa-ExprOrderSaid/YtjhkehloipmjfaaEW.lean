/- Plain law of expressions: both sides of each pair turned round, the value is the same. -/
import Derived.Test.YtjhkehloipmjfaaEU
namespace Go.Proofs.Ytjhkehloipmjfaa
/-! ### what is compared -/
theorem cmpI_neg (a b : Int) : cmpI b a = -cmpI a b := by unfold cmpI; (repeat' split) <;> omega
theorem less_tri : ∀ x y : List UInt8, (Op.bytesLess x y = true ∧ Op.bytesLess y x = false ∧ (x == y) = false ∧ (y == x) = false) ∨ (Op.bytesLess x y = false ∧ Op.bytesLess y x = true ∧ (x == y) = false ∧ (y == x) = false) ∨ (x = y ∧ Op.bytesLess x y = false)
  | [], [] => .inr (.inr ⟨rfl, rfl⟩)
  | [], _ :: _ => .inl ⟨rfl, rfl, rfl, rfl⟩
  | _ :: _, [] => .inr (.inl ⟨rfl, rfl, rfl, rfl⟩)
  | a :: x, b :: y => by
    rw [Op.bytesLess, Op.bytesLess]
    by_cases hab : a = b
    · subst hab
      have h : ¬ a < a := UInt8.lt_irrefl a
      rcases less_tri x y with ⟨h1, h2, h3, h4⟩ | ⟨h1, h2, h3, h4⟩ | ⟨h1, h2⟩
      · exact .inl ⟨by simp [h1], by simp [h2, h], by simpa using h3, by simpa using h4⟩
      · exact .inr (.inl ⟨by simp [h1, h], by simp [h2], by simpa using h3, by simpa using h4⟩)
      · exact .inr (.inr ⟨by rw [h1], by simp [h2, h]⟩)
    · have hba : ¬ b = a := fun e => hab e.symm
      rcases UInt8.lt_or_lt_of_ne hab with h | h
      · have h' : ¬ b < a := UInt8.lt_asymm h
        exact .inl ⟨by simp [h], by simp [h', hba], by simp [hab], by simp [hba]⟩
      · have h' : ¬ a < b := UInt8.lt_asymm h
        exact .inr (.inl ⟨by simp [h', hab], by simp [h], by simp [hab], by simp [hba]⟩)
theorem cmpS_neg (a b : ByteArray) : cmpS b a = -cmpS a b := by
  unfold cmpS
  rcases less_tri a.toList b.toList with ⟨h1, h2, h3, h4⟩ | ⟨h1, h2, h3, h4⟩ | ⟨h1, h2⟩
  · rw [h1, h2, h3, h4]; rfl
  · rw [h1, h2, h3, h4]; rfl
  · rw [← h1]; rw [← h1] at h2; rw [h2]; simp
theorem order_swap (a b : Ieee.Datum) : b.order a = (a.order b).map Ordering.swap := by
  cases a <;> cases b <;> try rfl
  · rename_i s m i t n j
    simp only [Ieee.Datum.order]
    rw [Int.min_comm j i, Option.map_some, Int.compare_swap]
  · rename_i s m i t; cases t <;> rfl
  · rename_i s t n j; cases s <;> rfl
  · rename_i s t; cases s <;> cases t <;> rfl
theorem ordF_swap (a b : Nat) : ordF b a = (ordF a b).map Ordering.swap := order_swap _ _
theorem cmpF_neg (a b : Nat) : cmpF b a = -cmpF a b := by
  unfold cmpF
  rw [ordF_swap]
  cases nanF a <;> cases nanF b <;> try rfl
  cases ordF a b with
  | none => rfl
  | some o => cases o <;> rfl
theorem agN_small (n : Int) (f : Nat) : (agN n f).1 = 0 ∨ (agN n f).1 = 1 ∨ (agN n f).1 = -1 := by
  unfold agN cmpI
  (repeat' split) <;> simp
theorem wrap_neg {c : Int} (h : c = 0 ∨ c = 1 ∨ c = -1) : IntKind.i64.wrap (0 - c) = -c := by
  rcases h with rfl | rfl | rfl <;> decide
theorem agV_swap {a b : Val} (h : ¬ (a.kind ≠ b.kind ∧ (isNum a = false ∨ isNum b = false))) : agV b a = (-(agV a b).1, (agV a b).2) := by
  by_cases he : a.kind = b.kind
  · unfold agV
    rw [← he]
    have n1 : ¬ (a.kind = 2 ∧ a.kind = 3) := fun h => by omega
    have n2 : ¬ (a.kind = 3 ∧ a.kind = 2) := fun h => by omega
    simp only [if_neg n1, if_neg n2]
    by_cases h3 : a.kind = 3
    · simp only [if_pos h3]; rw [cmpF_neg, Bool.and_comm]
    · simp only [if_neg h3]
      by_cases h4 : a.kind = 4
      · simp only [if_pos h4]; rw [cmpS_neg]
      · simp only [if_neg h4]; rw [cmpI_neg]
  · have hn : isNum a = true ∧ isNum b = true := by
      cases ha : isNum a <;> cases hb : isNum b <;> first | exact ⟨rfl, rfl⟩ | exact absurd ⟨he, by simp [ha, hb]⟩ h
    unfold isNum at hn
    rw [decide_eq_true_eq, decide_eq_true_eq] at hn
    unfold agV
    rcases hn.1 with h2 | h3
    · have hb : b.kind = 3 := by omega
      rw [if_neg (by omega), if_pos ⟨hb, h2⟩, if_pos ⟨h2, hb⟩, wrap_neg (agN_small _ _)]
    · have hb : b.kind = 2 := by omega
      rw [if_pos ⟨hb, h3⟩, if_neg (by omega), if_pos ⟨h3, hb⟩, wrap_neg (agN_small _ _), Int.neg_neg]
theorem testR_swap {f f' : Int → Bool} (ne : Bool) (hf : ∀ c, f' (-c) = f c) (a b : Val) : testR f' ne b a = testR f ne a b := by
  have e1 : (valueRight b = false ∨ valueRight a = false) ↔ (valueRight a = false ∨ valueRight b = false) := Or.comm
  have e2 : (b.kind = 0 ∨ a.kind = 0) ↔ (a.kind = 0 ∨ b.kind = 0) := Or.comm
  have e3 : (b.kind ≠ a.kind ∧ (isNum b = false ∨ isNum a = false)) ↔ (a.kind ≠ b.kind ∧ (isNum a = false ∨ isNum b = false)) := by
    rw [Or.comm (a := isNum b = false), ne_comm]
  unfold testR
  simp only [e1, e2, e3]
  split
  · rfl
  · split
    · rfl
    · split
      · rfl
      · rename_i h
        rw [agV_swap h]
        simp only [hf]
/-! ### what is reckoned -/
theorem andI_comm (x y : Int) : andI x y = andI y x := by unfold andI; rw [BitVec.and_comm]
theorem mulV_comm (a b : Int) : mulV a b = mulV b a := by
  unfold mulV
  rw [Int.mul_comm (mxI a)]
  have : (decide (a < 0) = decide (b < 0)) ↔ (decide (b < 0) = decide (a < 0)) := eq_comm
  simp only [this]
theorem wholeV_comm {k : Nat} (hk : k ≠ 1) (a b : Int) : wholeV k a b = wholeV k b a := by
  unfold wholeV
  by_cases h0 : k = 0
  · rw [if_pos h0, if_pos h0, Int.add_comm b a, andI_comm]
  · rw [if_neg h0, if_neg h0, if_neg hk, if_neg hk, mulV_comm]
theorem arF_comm {k : Nat} (hk : k ≠ 1) (x y : Nat) : arF k x y = arF k y x := by
  have : floatBits (opF k) .f64 x y = floatBits (opF k) .f64 y x := by
    match k, hk with
    | 0, _ => exact add_comm_f _ _ _
    | k + 2, _ => exact mul_comm_f _ _ _
  unfold arF
  rw [this]
theorem reckonR_comm {k : Nat} (hk : k ≠ 1) (a b : Val) : reckonR k b a = reckonR k a b := by
  have e1 : (valueRight b = false ∨ valueRight a = false) ↔ (valueRight a = false ∨ valueRight b = false) := Or.comm
  have e2 : (b.kind = 0 ∨ a.kind = 0) ↔ (a.kind = 0 ∨ b.kind = 0) := Or.comm
  have e3 : (isNum b = false ∨ isNum a = false) ↔ (isNum a = false ∨ isNum b = false) := Or.comm
  have e4 : (b.kind = 2 ∧ a.kind = 2) ↔ (a.kind = 2 ∧ b.kind = 2) := And.comm
  unfold reckonR
  simp only [e1, e2, e3, e4]
  rw [wholeV_comm hk b.n a.n, arF_comm hk (wideF b)]
/-! ### operators -/
def flipN (s : ByteArray) : ByteArray :=
  if eqL s ⟨#[60]⟩ = true then ⟨#[62]⟩ else if eqL s ⟨#[62]⟩ = true then ⟨#[60]⟩ else if eqL s ⟨#[60, 61]⟩ = true then ⟨#[62, 61]⟩ else if eqL s ⟨#[62, 61]⟩ = true then ⟨#[60, 61]⟩ else s
theorem flip_and : flipN nAnd = nAnd := by unfold flipN eqL nAnd; simp only [ByteArray.toList_eq]; rfl
theorem flip_or : flipN nOr = nOr := by unfold flipN eqL nOr; simp only [ByteArray.toList_eq]; rfl
theorem flip_add : flipN nAdd = nAdd := by unfold flipN eqL nAdd; simp only [ByteArray.toList_eq]; rfl
theorem flip_mul : flipN ⟨#[42]⟩ = ⟨#[42]⟩ := by unfold flipN eqL; simp only [ByteArray.toList_eq]; rfl
theorem turn_test {s : ByteArray} {f : Int → Bool} {ne : Bool} (h : Six s f ne) (a b : Val) : opR (flipN s) [b, a] = opR s [a, b] := by
  have key : ∀ (t t' : ByteArray) (g g' : Int → Bool) (ne : Bool), flipN t = t' → oc t = 7 → oc t' = 7 → testF t = g → testF t' = g' → testN t = ne → testN t' = ne → (∀ c, g' (-c) = g c) → opR (flipN t) [b, a] = opR t [a, b] := fun t t' g g' ne h0 h1 h2 h3 h4 h5 h6 hf => by
    rw [h0, opR_test h1, opR_test h2, h3, h4, h5, h6, testR_swap ne hf]
  cases h
  · refine key _ ⟨#[61]⟩ (fun c => c == 0) (fun c => c == 0) false ?_ ?_ ?_ ?_ ?_ ?_ ?_ (fun c => by rw [Bool.eq_iff_iff]; simp)
    all_goals ((first | unfold flipN eqL | unfold oc eqL | unfold testF eqL | unfold testN eqL); simp only [ByteArray.toList_eq]; rfl)
  · refine key _ ⟨#[60, 62]⟩ (fun c => c != 0) (fun c => c != 0) true ?_ ?_ ?_ ?_ ?_ ?_ ?_ (fun c => by rw [Bool.eq_iff_iff]; simp)
    all_goals ((first | unfold flipN eqL | unfold oc eqL | unfold testF eqL | unfold testN eqL); simp only [ByteArray.toList_eq]; rfl)
  · refine key _ ⟨#[62]⟩ (fun c => decide (c < 0)) (fun c => decide (c > 0)) false ?_ ?_ ?_ ?_ ?_ ?_ ?_ (fun c => by rw [decide_eq_decide]; omega)
    all_goals ((first | unfold flipN eqL | unfold oc eqL | unfold testF eqL | unfold testN eqL); simp only [ByteArray.toList_eq]; rfl)
  · refine key _ ⟨#[62, 61]⟩ (fun c => decide (c ≤ 0)) (fun c => decide (c ≥ 0)) false ?_ ?_ ?_ ?_ ?_ ?_ ?_ (fun c => by rw [decide_eq_decide]; omega)
    all_goals ((first | unfold flipN eqL | unfold oc eqL | unfold testF eqL | unfold testN eqL); simp only [ByteArray.toList_eq]; rfl)
  · refine key _ ⟨#[60]⟩ (fun c => decide (c > 0)) (fun c => decide (c < 0)) false ?_ ?_ ?_ ?_ ?_ ?_ ?_ (fun c => by rw [decide_eq_decide]; omega)
    all_goals ((first | unfold flipN eqL | unfold oc eqL | unfold testF eqL | unfold testN eqL); simp only [ByteArray.toList_eq]; rfl)
  · refine key _ ⟨#[60, 61]⟩ (fun c => decide (c ≥ 0)) (fun c => decide (c ≤ 0)) false ?_ ?_ ?_ ?_ ?_ ?_ ?_ (fun c => by rw [decide_eq_decide]; omega)
    all_goals ((first | unfold flipN eqL | unfold oc eqL | unfold testF eqL | unfold testN eqL); simp only [ByteArray.toList_eq]; rfl)
theorem andL_comm (x y : Int) : andL [x, y] 1 = andL [y, x] 1 := by
  simp only [andL_cons, andL_nil]
  (repeat' split) <;> omega
theorem opR_mul (a b : Val) : opR ⟨#[42]⟩ [a, b] = if (reckonR 2 a b).2 = 4 then none else some ((reckonR 2 a b).1, (reckonR 2 a b).2 == 7) := by
  have : oc ⟨#[42]⟩ = 6 := by unfold oc eqL; simp only [ByteArray.toList_eq]; rfl
  unfold opR; rw [this]; rfl
def nSub : ByteArray := ⟨#[45]⟩
theorem oc_sub {s : ByteArray} (h : oc s = 5) : s = nSub := by
  have hn := oc_nm s
  rw [h] at hn
  exact eq_of_eqL hn.n5
theorem opR_turn {s : ByteArray} (hk : opKids s = 2) (h5 : s ≠ nSub) (a b : Val) : opR (flipN s) [b, a] = opR s [a, b] := by
  have hk0 : opKids s > 0 := by rw [hk]; decide
  have hn := oc_nm s
  have hoc : oc s ≤ 7 := by
    unfold oc
    (repeat' split) <;> omega
  have hkk := kids_of s hk0
  rw [hk] at hkk
  have hs : oc s ≠ 5 := fun h => h5 (oc_sub h)
  obtain ⟨c, hc⟩ : ∃ c, oc s = c := ⟨_, rfl⟩
  have hsix := fun h => six_of hk0 h
  rw [hc] at hn hoc hkk hs hsix
  match c, hn, hoc, hkk, hs, hsix with
  | 0, hn, _, _, _, _ =>
    have e : s = nAnd := eq_of_eqL hn.n0
    subst e
    rw [flip_and, opR_and, opR_and, andL_comm]; simp only [Or.comm (a := ofE b = 4)]
  | 1, hn, _, _, _, _ =>
    have e : s = nOr := eq_of_eqL hn.n1
    subst e
    rw [flip_or, opR_or, opR_or, andL_comm]; simp only [Or.comm (a := ofE b = 4)]
  | 2, _, _, hkk, _, _ => exact absurd hkk (by decide)
  | 3, _, _, hkk, _, _ => exact absurd hkk (by decide)
  | 4, hn, _, _, _, _ =>
    have e : s = nAdd := eq_of_eqL hn.n4
    subst e
    rw [flip_add, opR_add, opR_add, reckonR_comm (by decide)]
  | 5, _, _, _, hs, _ => exact absurd rfl hs
  | 6, hn, _, _, _, _ =>
    have e : s = ⟨#[42]⟩ := eq_of_eqL hn.n6
    subst e
    rw [flip_mul, opR_mul, opR_mul, reckonR_comm (by decide)]
  | 7, _, _, _, _, hsix => exact turn_test (hsix rfl) a b
  | c + 8, _, hoc, _, _, _ => exact absurd hoc (by omega)
/-- a name that is turned asks for as many -/
theorem opKids_flip (s : ByteArray) : opKids (flipN s) = opKids s := by
  have key : ∀ t t' : ByteArray, flipN t = t' → opKids t' = opKids t → s = t → opKids (flipN s) = opKids s := fun t t' h1 h2 e => by subst e; rw [h1, h2]
  by_cases h : eqL s ⟨#[60]⟩ = true
  · refine key _ ⟨#[62]⟩ ?_ ?_ (eq_of_eqL h)
    all_goals first | (unfold flipN eqL; simp only [ByteArray.toList_eq]; rfl) | (unfold opKids eqL; simp only [ByteArray.toList_eq]; rfl)
  by_cases h1 : eqL s ⟨#[62]⟩ = true
  · refine key _ ⟨#[60]⟩ ?_ ?_ (eq_of_eqL h1)
    all_goals first | (unfold flipN eqL; simp only [ByteArray.toList_eq]; rfl) | (unfold opKids eqL; simp only [ByteArray.toList_eq]; rfl)
  by_cases h2 : eqL s ⟨#[60, 61]⟩ = true
  · refine key _ ⟨#[62, 61]⟩ ?_ ?_ (eq_of_eqL h2)
    all_goals first | (unfold flipN eqL; simp only [ByteArray.toList_eq]; rfl) | (unfold opKids eqL; simp only [ByteArray.toList_eq]; rfl)
  by_cases h3 : eqL s ⟨#[62, 61]⟩ = true
  · refine key _ ⟨#[60, 61]⟩ ?_ ?_ (eq_of_eqL h3)
    all_goals first | (unfold flipN eqL; simp only [ByteArray.toList_eq]; rfl) | (unfold opKids eqL; simp only [ByteArray.toList_eq]; rfl)
  have : flipN s = s := by unfold flipN; rw [if_neg h, if_neg h1, if_neg h2, if_neg h3]
  rw [this]
/-! ### turned -/
def turnE : E → E := foldE fun e ks => if e.kind = 3 ∧ e.kids.length = 2 ∧ eqL e.name nSub = false then ⟨e.kind, flipN e.name, e.val, ks.reverse⟩ else ⟨e.kind, e.name, e.val, ks⟩
theorem turnE_eq (e : E) : turnE e = if e.kind = 3 ∧ e.kids.length = 2 ∧ eqL e.name nSub = false then ⟨e.kind, flipN e.name, e.val, (e.kids.map turnE).reverse⟩ else ⟨e.kind, e.name, e.val, e.kids.map turnE⟩ := by
  unfold turnE; rw [foldE_eq]
theorem foldl_max2 (f : E → Nat) (a b : E) (n : Nat) : [b, a].foldl (fun d k => max d (f k)) n = [a, b].foldl (fun d k => max d (f k)) n := by
  simp only [List.foldl_cons, List.foldl_nil]; omega
theorem dE_turn : ∀ e : E, dE (turnE e) = dE e := E.ind fun e ih => by
  have hm : ∀ (l : List E), (∀ k ∈ l, dE (turnE k) = dE k) → ∀ n, (l.map turnE).foldl (fun d k => max d (dE k)) n = l.foldl (fun d k => max d (dE k)) n := by
    intro l
    induction l with
    | nil => intro _ n; rfl
    | cons x l ihl =>
      intro h n
      rw [List.map_cons, List.foldl_cons, List.foldl_cons, h x (by simp)]
      exact ihl (fun k hk => h k (by simp [hk])) _
  rw [turnE_eq, dE_eq, dE_eq e]
  split
  · rename_i h
    obtain ⟨_, hl, _⟩ := h
    obtain ⟨a, b, hab⟩ : ∃ a b, e.kids = [a, b] := by
      match hks : e.kids, hl with
      | [a, b], _ => exact ⟨a, b, rfl⟩
    simp only
    rw [hab] at ih ⊢
    rw [List.map_cons, List.map_cons, List.map_nil]
    show ([turnE b, turnE a].foldl (fun d k => max d (dE k)) 0) + 1 = _
    rw [foldl_max2]
    have := hm [a, b] ih 0
    rw [List.map_cons, List.map_cons, List.map_nil] at this
    rw [this]
  · simp only
    rw [hm e.kids ih 0]
theorem all_turn {l : List E} (h : ∀ k ∈ l, rightE (turnE k) = rightE k) : (l.map turnE).all rightE = l.all rightE := by
  induction l with
  | nil => rfl
  | cons x l ih =>
    rw [List.map_cons, List.all_cons, List.all_cons, h x (by simp), ih fun k hk => h k (by simp [hk])]
theorem empty_map {l : List E} : (l.map turnE).isEmpty = l.isEmpty := by cases l <;> rfl
theorem rightE_turn : ∀ e : E, rightE (turnE e) = rightE e := E.ind fun e ih => by
  rw [turnE_eq]
  split
  · rename_i h
    rw [rightE_eq, rightE_eq e]
    simp only
    rw [if_neg (by omega), if_neg (by omega), if_pos h.1, if_neg (by omega), if_neg (by omega), if_pos h.1, opKids_flip, List.length_reverse, List.length_map, List.all_reverse, all_turn ih]
  · rw [rightE_eq, rightE_eq e]
    simp only
    rw [empty_map, List.length_map, all_turn ih]
theorem exprRight_turn (e : E) : exprRight (turnE e) = exprRight e := by rw [exprRight_dE, exprRight_dE, dE_turn, rightE_turn]
theorem eval_turn (ps : List Pr) : ∀ e : E, rightE e = true → evalE ps (turnE e) = evalE ps e := E.ind fun e ih hr => by
  rw [rightE_eq] at hr
  have hkids : e.kind = 1 ∨ e.kind = 2 → e.kids = [] := fun h => by
    split at hr
    · simp only [Bool.and_eq_true, List.isEmpty_iff] at hr; exact hr.1.2
    · split at hr
      · simp only [Bool.and_eq_true, List.isEmpty_iff] at hr; exact hr.1.2
      · omega
  rw [turnE_eq]
  by_cases h1 : e.kind = 1
  · rw [if_neg (by omega), evalE_eq, evalE_eq ps e]
    simp only
    rw [if_pos h1, if_pos h1]
  by_cases h2 : e.kind = 2
  · rw [if_neg (by omega), evalE_eq, evalE_eq ps e]
    simp only
    rw [if_neg h1, if_pos h2, if_neg h1, if_pos h2]
  rw [if_neg h1, if_neg h2] at hr
  split at hr
  · rename_i h3
    simp only [Bool.and_eq_true, decide_eq_true_eq] at hr
    obtain ⟨⟨⟨_, hop⟩, hlen⟩, hall⟩ := hr
    have hev : e.kids.map (evalE ps ∘ turnE) = e.kids.map (evalE ps) := List.map_congr_left fun k hk => ih k hk (List.all_eq_true.1 hall k hk)
    split
    · rename_i h
      obtain ⟨_, hl, hne⟩ := h
      obtain ⟨a, b, hab⟩ : ∃ a b, e.kids = [a, b] := by
        match hks : e.kids, hl with
        | [a, b], _ => exact ⟨a, b, rfl⟩
      rw [evalE_eq, evalE_eq ps e]
      simp only
      rw [if_neg h1, if_neg h2, if_neg h1, if_neg h2]
      rw [hab] at hev hlen ⊢
      simp only [List.map_cons, List.map_nil, Function.comp, List.cons.injEq, and_true] at hev
      have hrev : [turnE a, turnE b].reverse = [turnE b, turnE a] := rfl
      rw [List.map_cons, List.map_cons, List.map_nil, hrev]
      simp only [List.map_cons, List.map_nil]
      rw [hev.1, hev.2]
      cases evalE ps a with
      | none => cases evalE ps b <;> rfl
      | some r => cases evalE ps b with
        | none => rfl
        | some q =>
          have hsub : e.name ≠ nSub := fun e' => by
            rw [e'] at hne
            unfold eqL at hne
            simp at hne
          have := opR_turn (s := e.name) (by rw [hlen]; rfl) hsub r.1 q.1
          simp only [allS, Option.map_some, List.map_cons, List.map_nil, List.any_cons, List.any_nil, Bool.or_false]
          rw [this, Bool.or_comm q.2 r.2]
    · rw [evalE_eq, evalE_eq ps e]
      simp only
      rw [if_neg h1, if_neg h2, if_neg h1, if_neg h2, List.map_map, hev]
  · cases hr
theorem evalR_turn (ps : List Pr) {e : E} (h : exprRight e = true) : evalR ps (turnE e) = evalR ps e := by
  rw [evalR_right h, evalR_right (by rw [exprRight_turn]; exact h), eval_turn ps e (rightE_of h)]
end Go.Proofs.Ytjhkehloipmjfaa
