/- An expression's value, in plain words; which operator a name is. -/
import Derived.Test.YtjhkehloipmjfaaEF
namespace Go.Proofs.Ytjhkehloipmjfaa
open Go.RowKit
theorem eq_of_eqL {s t : ByteArray} (h : eqL s t = true) : s = t := by
  unfold eqL at h
  rw [ByteArray.toList_eq, ByteArray.toList_eq, beq_iff_eq] at h
  cases s; cases t
  simp only [ByteArray.mk.injEq]
  exact Array.toList_inj.1 h
def oc (s : ByteArray) : Nat :=
  if eqL s ⟨#[97, 110, 100]⟩ = true then 0 else if eqL s ⟨#[111, 114]⟩ = true then 1 else if eqL s ⟨#[110, 111, 116]⟩ = true then 2
  else if eqL s ⟨#[105, 115, 110, 117, 108, 108]⟩ = true then 3 else if eqL s ⟨#[43]⟩ = true then 4 else if eqL s ⟨#[45]⟩ = true then 5 else if eqL s ⟨#[42]⟩ = true then 6 else 7
theorem nm_of {s : ByteArray} {c : Nat} (n0 : eqL s ⟨#[97, 110, 100]⟩ = Nat.beq c 0) (n1 : eqL s ⟨#[111, 114]⟩ = Nat.beq c 1) (n2 : eqL s ⟨#[110, 111, 116]⟩ = Nat.beq c 2) (n3 : eqL s ⟨#[105, 115, 110, 117, 108, 108]⟩ = Nat.beq c 3)
    (n4 : eqL s ⟨#[43]⟩ = Nat.beq c 4) (n5 : eqL s ⟨#[45]⟩ = Nat.beq c 5) (n6 : eqL s ⟨#[42]⟩ = Nat.beq c 6) : Nm s c := ⟨n0, n1, n2, n3, n4, n5, n6⟩
theorem oc_nm (s : ByteArray) : Nm s (oc s) := by
  have lit : ∀ c t, s = t → (∀ u ∈ [(⟨#[97, 110, 100]⟩ : ByteArray)], u = u) → eqL t ⟨#[97, 110, 100]⟩ = Nat.beq c 0 ∧ eqL t ⟨#[111, 114]⟩ = Nat.beq c 1 ∧ eqL t ⟨#[110, 111, 116]⟩ = Nat.beq c 2 ∧ eqL t ⟨#[105, 115, 110, 117, 108, 108]⟩ = Nat.beq c 3 ∧ eqL t ⟨#[43]⟩ = Nat.beq c 4 ∧ eqL t ⟨#[45]⟩ = Nat.beq c 5 ∧ eqL t ⟨#[42]⟩ = Nat.beq c 6 → Nm s c := fun c t e _ h => by
    subst e; exact nm_of h.1 h.2.1 h.2.2.1 h.2.2.2.1 h.2.2.2.2.1 h.2.2.2.2.2.1 h.2.2.2.2.2.2
  unfold oc
  split
  · next h => exact lit 0 _ (eq_of_eqL h) (by simp) (by unfold eqL; simp only [ByteArray.toList_eq]; decide)
  next h0 =>
  split
  · next h => exact lit 1 _ (eq_of_eqL h) (by simp) (by unfold eqL; simp only [ByteArray.toList_eq]; decide)
  next h1 =>
  split
  · next h => exact lit 2 _ (eq_of_eqL h) (by simp) (by unfold eqL; simp only [ByteArray.toList_eq]; decide)
  next h2 =>
  split
  · next h => exact lit 3 _ (eq_of_eqL h) (by simp) (by unfold eqL; simp only [ByteArray.toList_eq]; decide)
  next h3 =>
  split
  · next h => exact lit 4 _ (eq_of_eqL h) (by simp) (by unfold eqL; simp only [ByteArray.toList_eq]; decide)
  next h4 =>
  split
  · next h => exact lit 5 _ (eq_of_eqL h) (by simp) (by unfold eqL; simp only [ByteArray.toList_eq]; decide)
  next h5 =>
  split
  · next h => exact lit 6 _ (eq_of_eqL h) (by simp) (by unfold eqL; simp only [ByteArray.toList_eq]; decide)
  next h6 =>
  have ff : ∀ {b : Bool}, ¬ b = true → b = false := fun h => Bool.eq_false_iff.2 h
  exact nm_of (ff h0) (ff h1) (ff h2) (ff h3) (ff h4) (ff h5) (ff h6)
/-- of a test's name: what it tests, and whether it is the one of what differs -/
def testF (s : ByteArray) : Int → Bool :=
  if eqL s ⟨#[61]⟩ = true then (fun c => c == 0) else if eqL s ⟨#[60, 62]⟩ = true then (fun c => c != 0) else if eqL s ⟨#[60]⟩ = true then (fun c => decide (c < 0))
  else if eqL s ⟨#[60, 61]⟩ = true then (fun c => decide (c ≤ 0)) else if eqL s ⟨#[62]⟩ = true then (fun c => decide (c > 0)) else (fun c => decide (c ≥ 0))
def testN (s : ByteArray) : Bool := eqL s ⟨#[60, 62]⟩
theorem six_of {s : ByteArray} (hk : opKids s > 0) (ho : oc s = 7) : Six s (testF s) (testN s) := by
  have hn := oc_nm s
  rw [ho] at hn
  have m0 : eqL s ⟨#[97, 110, 100]⟩ = false := hn.n0
  have m1 : eqL s ⟨#[111, 114]⟩ = false := hn.n1
  have m2 : eqL s ⟨#[110, 111, 116]⟩ = false := hn.n2
  have m3 : eqL s ⟨#[105, 115, 110, 117, 108, 108]⟩ = false := hn.n3
  have m4 : eqL s ⟨#[43]⟩ = false := hn.n4
  have m5 : eqL s ⟨#[45]⟩ = false := hn.n5
  have m6 : eqL s ⟨#[42]⟩ = false := hn.n6
  have lit : ∀ t f ne, s = t → testF t = f → testN t = ne → Six t f ne → Six s (testF s) (testN s) := fun t f ne e h1 h2 h => by subst e; subst h1; subst h2; exact h
  by_cases h : eqL s ⟨#[61]⟩ = true
  · exact lit _ _ _ (eq_of_eqL h) (by unfold testF eqL; simp only [ByteArray.toList_eq]; rfl) (by unfold testN eqL; simp only [ByteArray.toList_eq]; rfl) .eq
  by_cases h1 : eqL s ⟨#[60, 62]⟩ = true
  · exact lit _ _ _ (eq_of_eqL h1) (by unfold testF eqL; simp only [ByteArray.toList_eq]; rfl) (by unfold testN eqL; simp only [ByteArray.toList_eq]; rfl) .ne
  by_cases h2 : eqL s ⟨#[60]⟩ = true
  · exact lit _ _ _ (eq_of_eqL h2) (by unfold testF eqL; simp only [ByteArray.toList_eq]; rfl) (by unfold testN eqL; simp only [ByteArray.toList_eq]; rfl) .lt
  by_cases h3 : eqL s ⟨#[60, 61]⟩ = true
  · exact lit _ _ _ (eq_of_eqL h3) (by unfold testF eqL; simp only [ByteArray.toList_eq]; rfl) (by unfold testN eqL; simp only [ByteArray.toList_eq]; rfl) .le
  by_cases h4 : eqL s ⟨#[62]⟩ = true
  · exact lit _ _ _ (eq_of_eqL h4) (by unfold testF eqL; simp only [ByteArray.toList_eq]; rfl) (by unfold testN eqL; simp only [ByteArray.toList_eq]; rfl) .gt
  by_cases h5 : eqL s ⟨#[62, 61]⟩ = true
  · exact lit _ _ _ (eq_of_eqL h5) (by unfold testF eqL; simp only [ByteArray.toList_eq]; rfl) (by unfold testN eqL; simp only [ByteArray.toList_eq]; rfl) .ge
  exfalso
  unfold opKids at hk
  rw [m0, m1, m2, m3, m4, m5, m6, Bool.eq_false_iff.2 h, Bool.eq_false_iff.2 h1, Bool.eq_false_iff.2 h2, Bool.eq_false_iff.2 h3, Bool.eq_false_iff.2 h4, Bool.eq_false_iff.2 h5] at hk
  exact absurd hk (by decide)
theorem ari_of {s : ByteArray} {k : Nat} (hk : k < 3) (ho : oc s = 4 + k) : Ari s k := by
  have hn := oc_nm s
  rw [ho] at hn
  match k, hk with
  | 0, _ => rw [eq_of_eqL (s := s) hn.n4]; exact .add
  | 1, _ => rw [eq_of_eqL (s := s) hn.n5]; exact .sub
  | 2, _ => rw [eq_of_eqL (s := s) hn.n6]; exact .mul
theorem kids_of (s : ByteArray) (hk : opKids s > 0) : opKids s = if oc s = 2 ∨ oc s = 3 then 1 else 2 := by
  have hn := oc_nm s
  have m2 : eqL s ⟨#[110, 111, 116]⟩ = Nat.beq (oc s) 2 := hn.n2
  have m3 : eqL s ⟨#[105, 115, 110, 117, 108, 108]⟩ = Nat.beq (oc s) 3 := hn.n3
  by_cases h2 : oc s = 2
  · rw [h2] at m2
    have := eq_of_eqL m2
    rw [if_pos (.inl h2), this]
    unfold opKids eqL; simp only [ByteArray.toList_eq]; rfl
  by_cases h3 : oc s = 3
  · rw [h3] at m3
    have := eq_of_eqL m3
    rw [if_pos (.inr h3), this]
    unfold opKids eqL; simp only [ByteArray.toList_eq]; rfl
  rw [if_neg (by omega)]
  have e2 : Nat.beq (oc s) 2 = false := by cases h : Nat.beq (oc s) 2 with | false => rfl | true => exact absurd (Nat.eq_of_beq_eq_true h) h2
  have e3 : Nat.beq (oc s) 3 = false := by cases h : Nat.beq (oc s) 3 with | false => rfl | true => exact absurd (Nat.eq_of_beq_eq_true h) h3
  rw [e2] at m2
  rw [e3] at m3
  unfold opKids at hk ⊢
  rw [m2, m3] at hk ⊢
  split
  · rfl
  · rename_i hc
    rw [if_neg hc] at hk
    exact absurd hk (by decide)
def opR (s : ByteArray) (l : List Val) : Option (Val × Bool) :=
  match oc s, l with
  | 0, l => if ∀ v ∈ l, ofE v ≠ 4 then some (valT (andL (l.map ofT) 1), false) else none
  | 1, [a, b] => if ∀ v ∈ [a, b], ofE v ≠ 4 then some (valT (notT (andL [notT (ofT a), notT (ofT b)] 1)), false) else none
  | 2, [a] => if ∀ v ∈ [a], ofE v ≠ 4 then some (valT (notT (ofT a)), false) else none
  | 3, [a] => some (valT (if a.kind = 0 then 1 else 0), false)
  | 4, [a, b] => if (reckonR 0 a b).2 = 4 then none else some ((reckonR 0 a b).1, (reckonR 0 a b).2 == 7)
  | 5, [a, b] => if (reckonR 1 a b).2 = 4 then none else some ((reckonR 1 a b).1, (reckonR 1 a b).2 == 7)
  | 6, [a, b] => if (reckonR 2 a b).2 = 4 then none else some ((reckonR 2 a b).1, (reckonR 2 a b).2 == 7)
  | 7, [a, b] => if (testR (testF s) (testN s) a b).2 = 4 then none else some ((testR (testF s) (testN s) a b).1, false)
  | _, _ => none
theorem truthsV_all {l : List Val} (h : ¬ ∀ v ∈ l, ofE v ≠ 4) : truthsV l = none := by
  cases ht : truthsV l with
  | none => rfl
  | some ts => exact absurd (truthsV_some ht).2 h
/-- what the operator answers, or that it throws -/
theorem op_all {s : ByteArray} {ps : List (List D)} {ov : Bool} {l : List Val} (hk : opKids s > 0) (hl : opKids s = (l.length : Int)) : match opR s l with
    | some r => CallsM Try.prog 71 [.one (.po 1001 0), vS s, vL (l.map encV)] (rkS ps ov) (.dat (encV r.1)) (rkS ps (ov || r.2))
    | none => CallsP Try.prog 71 [.one (.po 1001 0), vS s, vL (l.map encV)] (rkS ps ov) pvWrong := by
  have hn := oc_nm s
  have hkk := kids_of s hk
  have hlen : l.length ≤ 1000 := by
    rw [hkk] at hl
    split at hl <;> omega
  have hoc : oc s ≤ 7 := by
    unfold oc
    (repeat' split) <;> omega
  have h1 : (oc s = 2 ∨ oc s = 3) → ∃ a, l = [a] := fun h => by
    rw [if_pos h] at hkk
    match l, (show l.length = 1 by omega) with
    | [a], _ => exact ⟨a, rfl⟩
  have h2 : ¬ (oc s = 2 ∨ oc s = 3) → ∃ a b, l = [a, b] := fun h => by
    rw [if_neg h] at hkk
    match l, (show l.length = 2 by omega) with
    | [a, b], _ => exact ⟨a, b, rfl⟩
  unfold opR
  obtain ⟨c, hc⟩ : ∃ c, oc s = c := ⟨_, rfl⟩
  have hsix := fun h => six_of hk h
  have hari0 := fun h => ari_of (s := s) (k := 0) (by decide) h
  have hari1 := fun h => ari_of (s := s) (k := 1) (by decide) h
  have hari2 := fun h => ari_of (s := s) (k := 2) (by decide) h
  rw [hc] at hn hoc h1 h2 hsix hari0 hari1 hari2 ⊢
  match c, hn, hoc, h1, h2, hsix, hari0, hari1, hari2 with
  | 0, hn, _, _, _, _, _, _, _ =>
    by_cases ht : ∀ v ∈ l, ofE v ≠ 4
    · simp only [if_pos ht, Bool.or_false]; exact op_and hn hlen ht
    · simp only [if_neg ht]; exact op_and_p hn hlen (truthsV_all ht)
  | 1, hn, _, _, h2, _, _, _, _ =>
    obtain ⟨a, b, rfl⟩ := h2 (by omega)
    by_cases ht : ∀ v ∈ [a, b], ofE v ≠ 4
    · simp only [if_pos ht, Bool.or_false]; exact op_or hn ht
    · simp only [if_neg ht]; exact op_or_p hn hlen (truthsV_all ht)
  | 2, hn, _, h1, _, _, _, _, _ =>
    obtain ⟨a, rfl⟩ := h1 (by omega)
    by_cases ht : ∀ v ∈ [a], ofE v ≠ 4
    · simp only [if_pos ht, Bool.or_false]; exact op_not hn ht
    · simp only [if_neg ht]; exact op_not_p hn hlen (truthsV_all ht)
  | 3, hn, _, h1, _, _, _, _, _ =>
    obtain ⟨a, rfl⟩ := h1 (by omega)
    simp only [Bool.or_false]; exact op_null hn
  | 4, hn, _, _, h2, _, ha, _, _ =>
    obtain ⟨a, b, rfl⟩ := h2 (by omega)
    by_cases ht : (reckonR 0 a b).2 = 4
    · simp only [if_pos ht]; exact op_add_p hn (ha rfl) ht
    · simp only [if_neg ht]; exact op_add hn (ha rfl) ht
  | 5, hn, _, _, h2, _, _, ha, _ =>
    obtain ⟨a, b, rfl⟩ := h2 (by omega)
    by_cases ht : (reckonR 1 a b).2 = 4
    · simp only [if_pos ht]; exact op_sub_p hn (ha rfl) ht
    · simp only [if_neg ht]; exact op_sub hn (ha rfl) ht
  | 6, hn, _, _, h2, _, _, _, ha =>
    obtain ⟨a, b, rfl⟩ := h2 (by omega)
    by_cases ht : (reckonR 2 a b).2 = 4
    · simp only [if_pos ht]; exact op_mul_p hn (ha rfl) ht
    · simp only [if_neg ht]; exact op_mul hn (ha rfl) ht
  | 7, hn, _, _, h2, hx, _, _, _ =>
    obtain ⟨a, b, rfl⟩ := h2 (by omega)
    by_cases ht : (testR (testF s) (testN s) a b).2 = 4
    · simp only [if_pos ht]; exact op_test_p hn (hx rfl) ht
    · simp only [if_neg ht, Bool.or_false]; exact op_test hn (hx rfl) ht
  | c + 8, _, hoc, _, _, _, _, _, _ => exact absurd hoc (by omega)
/-! ### an expression -/
structure Pr where
  name : ByteArray
  val : Val
def encPr (p : Pr) : List D := .v (.string p.name) :: encV p.val
def look1 (ps : List Pr) (s : ByteArray) : Val := match ps.find? (fun p => eqL p.name s) with
  | some p => p.val
  | none => zeroVal
def allS {α : Type} : List (Option α) → Option (List α)
  | [] => some []
  | none :: _ => none
  | some x :: l => (allS l).map (x :: ·)
def evalE (ps : List Pr) : E → Option (Val × Bool) := foldE fun e ks =>
  if e.kind = 1 then some (e.val, false) else if e.kind = 2 then some (look1 ps e.name, false)
  else match allS ks with
    | none => none
    | some l => (opR e.name (l.map (·.1))).map fun r => (r.1, l.any (·.2) || r.2)
theorem evalE_eq (ps : List Pr) (e : E) : evalE ps e = if e.kind = 1 then some (e.val, false) else if e.kind = 2 then some (look1 ps e.name, false)
  else match allS (e.kids.map (evalE ps)) with
    | none => none
    | some l => (opR e.name (l.map (·.1))).map fun r => (r.1, l.any (·.2) || r.2) := by
  unfold evalE
  rw [foldE_eq]
end Go.Proofs.Ytjhkehloipmjfaa
