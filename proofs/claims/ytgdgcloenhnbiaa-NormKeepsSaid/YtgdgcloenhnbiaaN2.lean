/- Plain laws of the lengths of patterns. No program in sight. -/
import Derived.Test.YtgdgcloenhnbiaaN1
namespace Go.Proofs.Ytgdgcloenhnbiaa
open Go.RowKit
/-- a least and a greatest length; none: without end -/
structure Sp where
  low : Nat
  high : Option Nat
deriving DecidableEq
def sat (n : Nat) : Nat := min n 1000000
theorem sat_le (n : Nat) : sat n ≤ 1000000 := Nat.min_le_right _ _
theorem sat_id {n : Nat} (h : n ≤ 1000000) : sat n = n := Nat.min_eq_left h
theorem sat_add (a b : Nat) : sat (sat a + sat b) = sat (a + b) := by unfold sat; omega
theorem sat_add_l (a b : Nat) : sat (sat a + b) = sat (a + b) := by unfold sat; omega
theorem sat_add_r (a b : Nat) : sat (a + sat b) = sat (a + b) := by unfold sat; omega
theorem sat_sat (a : Nat) : sat (sat a) = sat a := by unfold sat; omega
def andH : Option Nat → Option Nat → Option Nat
  | some a, some b => some (sat (a + b))
  | _, _ => none
def orH : Option Nat → Option Nat → Option Nat
  | some a, some b => some (max a b)
  | _, _ => none
def andS (s t : Sp) : Sp := ⟨sat (s.low + t.low), andH s.high t.high⟩
def orS (s t : Sp) : Sp := ⟨min s.low t.low, orH s.high t.high⟩
def timesS (s : Sp) (least most : Int) : Sp := ⟨sat (s.low * least.toNat), if most < 0 then none else s.high.map fun h => sat (h * most.toNat)⟩
def unitS : Sp := ⟨0, some 0⟩
def OkS (s : Sp) : Prop := s.low ≤ 1000000 ∧ ∀ h, s.high = some h → h ≤ 1000000
theorem ok_unit : OkS unitS := ⟨by decide, fun h e => by cases e; decide⟩
theorem ok_and (s t : Sp) : OkS (andS s t) := ⟨sat_le _, fun h e => by
  unfold andS andH at e
  simp only at e
  split at e
  · injection e with e; rw [← e]; exact sat_le _
  · cases e⟩
theorem ok_or {s t : Sp} (h1 : OkS s) (h2 : OkS t) : OkS (orS s t) := ⟨Nat.le_trans (Nat.min_le_left _ _) h1.1, fun h e => by
  unfold orS orH at e
  simp only at e
  split at e
  · rename_i a b ha hb
    injection e with e
    rw [← e]
    exact Nat.max_le.2 ⟨h1.2 a ha, h2.2 b hb⟩
  · cases e⟩
theorem ok_times (s : Sp) (l m : Int) : OkS (timesS s l m) := ⟨sat_le _, fun h e => by
  unfold timesS at e
  simp only at e
  split at e
  · cases e
  · rw [Option.map_eq_some_iff] at e
    obtain ⟨a, _, e⟩ := e
    rw [← e]; exact sat_le _⟩
theorem and_assoc' (s t u : Sp) : andS (andS s t) u = andS s (andS t u) := by
  unfold andS
  simp only [Sp.mk.injEq]
  refine ⟨by unfold sat; omega, ?_⟩
  cases s.high <;> cases t.high <;> cases u.high <;> simp only [andH, Option.some.injEq]
  unfold sat; omega
theorem or_assoc' (s t u : Sp) : orS (orS s t) u = orS s (orS t u) := by
  unfold orS
  simp only [Sp.mk.injEq]
  refine ⟨by omega, ?_⟩
  cases s.high <;> cases t.high <;> cases u.high <;> simp only [orH, Option.some.injEq]
  omega
theorem unit_and {s : Sp} (h : OkS s) : andS unitS s = s := by
  obtain ⟨l, hi⟩ := s
  unfold andS unitS
  simp only [Sp.mk.injEq, Nat.zero_add]
  refine ⟨sat_id h.1, ?_⟩
  cases hi with
  | none => rfl
  | some a => simp only [andH, Nat.zero_add]; rw [sat_id (h.2 a rfl)]
theorem and_unit {s : Sp} (h : OkS s) : andS s unitS = s := by
  obtain ⟨l, hi⟩ := s
  unfold andS unitS
  simp only [Sp.mk.injEq, Nat.add_zero]
  refine ⟨sat_id h.1, ?_⟩
  cases hi with
  | none => rfl
  | some a => simp only [andH, Nat.add_zero]; rw [sat_id (h.2 a rfl)]
def spanS (l : List Sp) : Sp := l.foldl andS unitS
theorem foldl_and : ∀ (l : List Sp) (s : Sp), OkS s → l.foldl andS s = andS s (spanS l)
  | [], s, h => (and_unit h).symm
  | t :: l, s, h => by
    unfold spanS
    rw [List.foldl_cons, List.foldl_cons, foldl_and l _ (ok_and s t), foldl_and l _ (ok_and unitS t), ← and_assoc', ← and_assoc', and_unit h]
theorem ok_seq (l : List Sp) : OkS (spanS l) := by
  cases l with
  | nil => exact ok_unit
  | cons t l => unfold spanS; rw [List.foldl_cons, foldl_and l _ (ok_and unitS t)]; exact ok_and _ _
theorem seq_cons {t : Sp} (l : List Sp) (h : OkS t) : spanS (t :: l) = andS t (spanS l) := by
  rw [spanS, List.foldl_cons, unit_and h, foldl_and l t h]
theorem seq_one {t : Sp} (h : OkS t) : spanS [t] = t := by rw [seq_cons [] h]; exact and_unit h
theorem seq_app : ∀ (l m : List Sp), (∀ s ∈ l, OkS s) → spanS (l ++ m) = andS (spanS l) (spanS m)
  | [], m, _ => (unit_and (ok_seq m)).symm
  | t :: l, m, h => by
    rw [List.cons_append, seq_cons _ (h t List.mem_cons_self), seq_app l m fun s hs => h s (List.mem_cons_of_mem _ hs), seq_cons l (h t List.mem_cons_self), and_assoc']
def altS : List Sp → Sp
  | [] => unitS
  | s :: l => l.foldl orS s
theorem foldl_or : ∀ (l : List Sp) (s t : Sp), l.foldl orS (orS s t) = orS s (l.foldl orS t)
  | [], _, _ => rfl
  | u :: l, s, t => by rw [List.foldl_cons, List.foldl_cons, or_assoc', foldl_or l s]
theorem alt_app : ∀ (l m : List Sp), l ≠ [] → m ≠ [] → altS (l ++ m) = orS (altS l) (altS m)
  | [], _, h, _ => absurd rfl h
  | s :: l, [], _, h => absurd rfl h
  | s :: l, t :: m, _, _ => by
    show (l ++ t :: m).foldl orS s = orS (l.foldl orS s) (m.foldl orS t)
    rw [List.foldl_append, List.foldl_cons, foldl_or]
/-- lengths -/
def lenP : Pt → Sp := foldP fun p ks =>
  if p.kind = 1 then unitS else if p.kind = 2 then ⟨1, some 1⟩ else if p.kind = 5 then timesS (ks.headD unitS) p.min p.max else if p.kind = 4 then altS ks else spanS ks
theorem lenP_eq (p : Pt) : lenP p = if p.kind = 1 then unitS else if p.kind = 2 then ⟨1, some 1⟩ else if p.kind = 5 then timesS ((p.kids.map lenP).headD unitS) p.min p.max else if p.kind = 4 then altS (p.kids.map lenP) else spanS (p.kids.map lenP) := by
  unfold lenP; rw [foldP_eq]
theorem ok_alt {l : List Sp} (h : ∀ s ∈ l, OkS s) : OkS (altS l) := by
  cases l with
  | nil => exact ok_unit
  | cons s l =>
    have : ∀ (l : List Sp) (s : Sp), OkS s → (∀ t ∈ l, OkS t) → OkS (l.foldl orS s) := fun l => by
      induction l with
      | nil => intro s h _; exact h
      | cons t l ih => intro s h1 h2; exact ih _ (ok_or h1 (h2 t List.mem_cons_self)) fun u hu => h2 u (List.mem_cons_of_mem _ hu)
    exact this l s (h s List.mem_cons_self) fun t ht => h t (List.mem_cons_of_mem _ ht)
theorem ok_len : ∀ p : Pt, OkS (lenP p) := Pt.ind fun p ih => by
  rw [lenP_eq]
  split
  · exact ok_unit
  · split
    · exact ⟨by decide, fun h e => by cases e; decide⟩
    · split
      · exact ok_times _ _ _
      · split
        · exact ok_alt fun s hs => by obtain ⟨k, hk, rfl⟩ := List.mem_map.1 hs; exact ih k hk
        · exact ok_seq _
theorem ok_lens (l : List Pt) : ∀ s ∈ l.map lenP, OkS s := fun s hs => by obtain ⟨k, _, rfl⟩ := List.mem_map.1 hs; exact ok_len k
theorem len_seq {p : Pt} (hk : p.kind = 3) : lenP p = spanS (p.kids.map lenP) := by rw [lenP_eq, if_neg (by omega), if_neg (by omega), if_neg (by omega), if_neg (by omega)]
theorem len_alt {p : Pt} (hk : p.kind = 4) : lenP p = altS (p.kids.map lenP) := by rw [lenP_eq, if_neg (by omega), if_neg (by omega), if_neg (by omega), if_pos hk]
theorem len_quant {p k : Pt} (hk : p.kind = 5) (h : p.kids = [k]) : lenP p = timesS (lenP k) p.min p.max := by rw [lenP_eq, if_neg (by omega), if_neg (by omega), if_pos hk, h]; rfl
theorem len_join_seq : ∀ l : List Pt, spanS ((l.flatMap (openP 3)).map lenP) = spanS (l.map lenP)
  | [] => rfl
  | p :: l => by
    rw [List.flatMap_cons, List.map_append, seq_app _ _ (ok_lens _), len_join_seq l, List.map_cons, seq_cons _ (ok_len p)]
    congr 1
    unfold openP
    split
    · rename_i h; rw [len_seq h]
    · exact seq_one (ok_len p)
theorem len_join3 (l : List Pt) : lenP (joinP 3 l) = spanS (l.map lenP) := by
  rw [← len_join_seq]
  rcases joinP_eq 3 l with ⟨p, h1, h2⟩ | ⟨_, h2⟩
  · rw [h1, h2]; exact (seq_one (ok_len p)).symm
  · rw [h2, len_seq rfl]; rfl
theorem open_ne {k : Int} (hk : k = 3 ∨ k = 4) {p : Pt} (h : rightP p = true) : openP k p ≠ [] := by
  unfold openP
  split
  · rename_i e; exact (right_group h (by omega)).1
  · simp
theorem len_join_alt : ∀ l : List Pt, (∀ x ∈ l, rightP x = true) → l ≠ [] → altS ((l.flatMap (openP 4)).map lenP) = altS (l.map lenP)
  | [], _, h => absurd rfl h
  | p :: l, hr, _ => by
    have h1 : altS ((openP 4 p).map lenP) = lenP p := by
      unfold openP
      split
      · rename_i h; rw [len_alt h]
      · rfl
    have ho := open_ne (k := 4) (.inr rfl) (hr p List.mem_cons_self)
    rw [List.flatMap_cons]
    by_cases hl : l = []
    · subst hl; rw [List.flatMap_nil, List.append_nil, h1]; rfl
    · have hf : (l.flatMap (openP 4)) ≠ [] := by
        cases l with
        | nil => exact absurd rfl hl
        | cons q l =>
          rw [List.flatMap_cons]
          exact fun e => open_ne (k := 4) (.inr rfl) (hr q (List.mem_cons_of_mem _ List.mem_cons_self)) (List.append_eq_nil_iff.1 e).1
      rw [List.map_append, alt_app _ _ (by simpa using ho) (by simpa using hf), h1, len_join_alt l (fun x hx => hr x (List.mem_cons_of_mem _ hx)) hl, List.map_cons]
      have := alt_app [lenP p] (l.map lenP) (by simp) (by simpa using hl)
      rw [List.singleton_append] at this
      rw [this]; rfl
theorem len_join4 {l : List Pt} (hr : ∀ x ∈ l, rightP x = true) (hl : l ≠ []) : lenP (joinP 4 l) = altS (l.map lenP) := by
  rw [← len_join_alt l hr hl]
  rcases joinP_eq 4 l with ⟨p, h1, h2⟩ | ⟨_, h2⟩
  · rw [h1, h2]; rfl
  · rw [h2, len_alt rfl]; rfl
theorem seq_rep (s : Sp) (hs : OkS s) : ∀ m : Nat, spanS (List.replicate (m + 1) s) = ⟨sat ((m + 1) * s.low), s.high.map fun h => sat ((m + 1) * h)⟩
  | 0 => by
    show spanS [s] = _
    rw [seq_one hs]
    obtain ⟨l, hi⟩ := s
    simp only [Nat.zero_add, Nat.one_mul, Sp.mk.injEq]
    refine ⟨(sat_id hs.1).symm, ?_⟩
    cases hi with
    | none => rfl
    | some a => simp only [Option.map_some]; rw [sat_id (hs.2 a rfl)]
  | m + 1 => by
    rw [List.replicate_succ, seq_cons _ hs, seq_rep s hs m]
    obtain ⟨l, hi⟩ := s
    unfold andS
    simp only [Sp.mk.injEq]
    refine ⟨by rw [sat_add_r, Nat.add_mul (m + 1) 1, Nat.one_mul, Nat.add_comm], ?_⟩
    cases hi with
    | none => rfl
    | some a => simp only [Option.map_some, andH]; rw [sat_add_r, Nat.add_mul (m + 1) 1, Nat.one_mul, Nat.add_comm]
theorem len_tail (b : Pt) : ∀ n : Nat, lenP (tailP b n) = ⟨0, (lenP b).high.map fun h => sat ((n + 1) * h)⟩
  | 0 => by
    rw [tailP, len_quant (p := quantP b 1) rfl rfl]
    unfold timesS
    simp [quantP, sat]
  | n + 1 => by
    rw [tailP, len_quant (p := quantP _ 1) rfl rfl, len_join3, List.map_cons, List.map_singleton, seq_cons _ (ok_len b), seq_one (ok_len _), len_tail b n]
    unfold timesS andS
    simp only [quantP, Sp.mk.injEq]
    refine ⟨by simp [sat], ?_⟩
    cases (lenP b).high with
    | none => rfl
    | some a =>
      simp only [andH, Option.map_some]
      show some (sat (sat (a + sat ((n + 1) * a)) * 1)) = some (sat ((n + 1 + 1) * a))
      rw [sat_add_r, Nat.mul_one, sat_sat, Nat.add_mul (n + 1) 1, Nat.one_mul, Nat.add_comm]
theorem right_more {p b : Pt} (hb : rightP b = true) : ∀ x ∈ moreP p b, rightP x = true := by
  have hq : ∀ (k : Pt) (m : Int), rightP k = true → m = -1 ∨ m = 1 → rightP (quantP k m) = true := fun k m h hm => right_quant_mk h ⟨by decide, by decide⟩ (by omega)
  have hj : ∀ l : List Pt, (∀ x ∈ l, rightP x = true) → l ≠ [] → rightP (joinP 3 l) = true := fun l hl hne => by
    have ho : ∀ x ∈ l.flatMap (openP 3), rightP x = true := fun x hx => by
      obtain ⟨y, hy, hxy⟩ := List.mem_flatMap.1 hx
      unfold openP at hxy
      split at hxy
      · exact right_kids (hl y hy) x hxy
      · obtain rfl := List.mem_singleton.1 hxy; exact hl _ hy
    rcases joinP_eq 3 l with ⟨q, h1, h2⟩ | ⟨_, h2⟩
    · rw [h2]; exact ho q (by rw [h1]; exact List.mem_cons_self)
    · rw [h2]
      refine right_group_mk (.inl rfl) ?_ ho
      cases l with
      | nil => exact absurd rfl hne
      | cons y l =>
        rw [List.flatMap_cons]
        exact fun e => open_ne (k := 3) (.inl rfl) (hl y List.mem_cons_self) (List.append_eq_nil_iff.1 e).1
  have ht : ∀ n : Nat, rightP (tailP b n) = true := fun n => by
    induction n with
    | zero => exact hq b 1 hb (.inr rfl)
    | succ n ih =>
      refine hq _ 1 (hj _ (fun x hx => ?_) (by simp)) (.inr rfl)
      rcases List.mem_cons.1 hx with rfl | hx
      · exact hb
      · obtain rfl := List.mem_singleton.1 hx; exact ih
  intro x hx
  unfold moreP at hx
  split at hx
  · obtain rfl := List.mem_singleton.1 hx; exact hq b _ hb (.inl rfl)
  · split at hx
    · obtain rfl := List.mem_singleton.1 hx; exact ht _
    · cases hx
theorem right_join {k : Int} (hk : k = 3 ∨ k = 4) {l : List Pt} (hl : ∀ x ∈ l, rightP x = true) (hne : l ≠ []) : rightP (joinP k l) = true := by
  have ho : ∀ x ∈ l.flatMap (openP k), rightP x = true := fun x hx => by
    obtain ⟨y, hy, hxy⟩ := List.mem_flatMap.1 hx
    unfold openP at hxy
    split at hxy
    · exact right_kids (hl y hy) x hxy
    · obtain rfl := List.mem_singleton.1 hxy; exact hl _ hy
  rcases joinP_eq k l with ⟨q, h1, h2⟩ | ⟨_, h2⟩
  · rw [h2]; exact ho q (by rw [h1]; exact List.mem_cons_self)
  · rw [h2]
    refine right_group_mk hk ?_ ho
    cases l with
    | nil => exact absurd rfl hne
    | cons y l =>
      rw [List.flatMap_cons]
      exact fun e => open_ne hk (hl y List.mem_cons_self) (List.append_eq_nil_iff.1 e).1
theorem copies_ne {p b : Pt} (h3 : p.max = -1 ∨ (1 ≤ p.max ∧ p.min ≤ p.max ∧ p.max ≤ 20)) : List.replicate p.min.toNat b ++ moreP p b ≠ [] := by
  intro e
  obtain ⟨e1, e2⟩ := List.append_eq_nil_iff.1 e
  have h0 : p.min.toNat = 0 := by have := congrArg List.length e1; simpa using this
  unfold moreP at e2
  split at e2
  · cases e2
  · split at e2
    · cases e2
    · omega
theorem right_normal : ∀ p : Pt, rightP p = true → rightP (normal p) = true := Pt.ind fun p ih h => by
  have hr := right_kids h
  rcases right_kind h with hk | hk | hk | hk | hk
  · rw [normal_elem (.inl hk)]; exact h
  · rw [normal_elem (.inr hk)]; exact h
  rotate_left 2
  · obtain ⟨⟨k, hkk, hkr⟩, h1, h2, h3⟩ := right_quant h hk
    rw [normal_quant hk hkk]
    have hb := ih k (by rw [hkk]; exact List.mem_cons_self) hkr
    refine right_join (.inl rfl) (fun x hx => ?_) (copies_ne h3)
    rcases List.mem_append.1 hx with hx | hx
    · rw [(List.mem_replicate.1 hx).2]; exact hb
    · exact right_more hb x hx
  all_goals
    rw [normal_group (by omega)]
    refine right_join (by omega) (fun x hx => ?_) (by simpa using (right_group h (by omega)).1)
    obtain ⟨y, hy, rfl⟩ := List.mem_map.1 hx
    exact ih y hy (hr y hy)
theorem len_normal : ∀ p : Pt, rightP p = true → lenP (normal p) = lenP p := Pt.ind fun p ih h => by
  have hr := right_kids h
  have hmap : (p.kids.map normal).map lenP = p.kids.map lenP := by
    rw [List.map_map]
    exact List.map_congr_left fun k hk => ih k hk (hr k hk)
  rcases right_kind h with hk | hk | hk | hk | hk
  · rw [normal_elem (.inl hk)]
  · rw [normal_elem (.inr hk)]
  · rw [normal_group (.inl hk), hk, len_join3, hmap, len_seq hk]
  · rw [normal_group (.inr hk), hk, len_join4 (fun x hx => by obtain ⟨y, hy, rfl⟩ := List.mem_map.1 hx; exact right_normal y (hr y hy)) (by simpa using (right_group h (by omega)).1), hmap, len_alt hk]
  · obtain ⟨⟨k, hkk, hkr⟩, h1, h2, h3⟩ := right_quant h hk
    have hB := ih k (by rw [hkk]; exact List.mem_cons_self) hkr
    rw [normal_quant hk hkk, len_join3, List.map_append, seq_app _ _ (ok_lens _), List.map_replicate, hB, len_quant hk hkk]
    have hok := ok_len k
    generalize hs : lenP k = s at *
    have hrep : spanS (List.replicate p.min.toNat s) = ⟨sat (p.min.toNat * s.low), if p.min.toNat = 0 then some 0 else s.high.map fun h => sat (p.min.toNat * h)⟩ := by
      cases hm : p.min.toNat with
      | zero => rw [Nat.zero_mul]; rfl
      | succ m => rw [seq_rep s hok m, if_neg (by omega)]
    rw [hrep]
    unfold moreP
    by_cases hm : p.max < 0
    · rw [if_pos hm, List.map_singleton, seq_one (ok_len _), len_quant (p := quantP _ _) rfl rfl, hB]
      unfold timesS andS
      simp only [quantP, Sp.mk.injEq, Int.toNat_zero, Nat.mul_zero]
      rw [if_pos hm, show sat 0 = 0 from rfl, Nat.add_zero, sat_sat, Nat.mul_comm]
      exact ⟨rfl, by cases (if p.min.toNat = 0 then some 0 else s.high.map fun h => sat (p.min.toNat * h)) <;> rfl⟩
    · rw [if_neg hm]
      by_cases hgt : p.min < p.max
      · rw [if_pos hgt, List.map_singleton, seq_one (ok_len _), len_tail, hB]
        unfold timesS andS
        simp only [Sp.mk.injEq]
        rw [if_neg hm, Nat.add_zero, sat_sat, Nat.mul_comm]
        refine ⟨rfl, ?_⟩
        cases s.high with
        | none => cases (if p.min.toNat = 0 then some 0 else Option.map (fun h => sat (p.min.toNat * h)) none) <;> rfl
        | some a =>
          have e : p.max.toNat = p.min.toNat + ((p.max - p.min - 1).toNat + 1) := by omega
          by_cases h0 : p.min.toNat = 0
          · rw [if_pos h0]
            simp only [Option.map_some, andH, Nat.zero_add]
            rw [sat_sat, e, h0, Nat.zero_add, Nat.mul_comm]
          · rw [if_neg h0]
            simp only [Option.map_some, andH]
            rw [sat_add, e, Nat.mul_comm a, Nat.add_mul p.min.toNat]
      · rw [if_neg hgt]
        have e : p.max = p.min := by omega
        have h0 : ¬ p.min.toNat = 0 := by omega
        rw [List.map_nil, show spanS [] = unitS from rfl, if_neg h0]
        rw [and_unit ⟨sat_le _, fun h e => by rw [Option.map_eq_some_iff] at e; obtain ⟨a, _, e⟩ := e; rw [← e]; exact sat_le _⟩]
        unfold timesS
        simp only [Sp.mk.injEq]
        rw [if_neg hm, e, Nat.mul_comm]
        refine ⟨rfl, ?_⟩
        cases s.high with
        | none => rfl
        | some a => simp only [Option.map_some]; rw [Nat.mul_comm]
end Go.Proofs.Ytgdgcloenhnbiaa
