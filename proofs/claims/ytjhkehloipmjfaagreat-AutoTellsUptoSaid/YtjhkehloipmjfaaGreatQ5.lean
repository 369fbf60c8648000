/- No cycle of moves that stay: ranks of a machine's states. No program in sight. -/
import Derived.Test.YtjhkehloipmjfaaGreatQM
import Derived.Test.YtjhkehloipmjfaaGreatQI
namespace Go.Proofs.YtjhkehloipmjfaaGreat
open Go.RowKit
def starP : Pt → Bool := foldP fun p ks => (p.kind != 5 || (p.min == 0 && decide (0 < (lenP (p.kids.headD zPt)).low))) && ks.all id
theorem zcq (p : Pt) : starP p = ((p.kind != 5 || (p.min == 0 && decide (0 < (lenP (p.kids.headD zPt)).low))) && p.kids.all starP) := by unfold starP; rw [za8, List.all_map]; rfl
theorem zf7 {p : Pt} (h : starP p = true) : ∀ k ∈ p.kids, starP k = true := by
  rw [zcq, Bool.and_eq_true, List.all_eq_true] at h; exact h.2
theorem ziZ {p k : Pt} (h : starP p = true) (hk : p.kind = 5) (hkk : p.kids = [k]) : p.min = 0 ∧ 0 < (lenP k).low := by
  rw [zcq, Bool.and_eq_true] at h
  have h := h.1
  rw [hkk, hk] at h
  simpa using h
theorem ziF {k : Int} {l : List Pt} (hk : k ≠ 5) (h : ∀ x ∈ l, starP x = true) : starP (groupP k l) = true := by
  rw [zcq, Bool.and_eq_true, List.all_eq_true]
  exact ⟨by simp [groupP, hk], h⟩
theorem zdN {b : Pt} {m : Int} (hb : starP b = true) (hl : 0 < (lenP b).low) : starP (quantP b m) = true := by
  rw [zcq]
  simp [quantP, hb, hl]
theorem zja {k : Int} {p : Pt} (h : starP p = true) : ∀ x ∈ openP k p, starP x = true := fun x hx => by
  unfold openP at hx
  split at hx
  · exact zf7 h x hx
  · obtain rfl := List.mem_singleton.1 hx; exact h
theorem zeo {k : Int} {l : List Pt} (hk : k ≠ 5) (h : ∀ x ∈ l, starP x = true) : starP (joinP k l) = true := by
  have h2 : ∀ y ∈ l.flatMap (openP k), starP y = true := fun y hy => by
    obtain ⟨x, hx, hxy⟩ := List.mem_flatMap.1 hy
    exact zja (h x hx) y hxy
  rcases zbG k l with ⟨p, e1, e2⟩ | ⟨_, e2⟩
  · rw [e2]; exact h2 p (by rw [e1]; exact List.mem_cons_self)
  · rw [e2]; exact ziF hk h2
theorem zh7 (s t : Sp) : 0 < (andS s t).low ↔ 0 < s.low ∨ 0 < t.low := by
  show 0 < sat (s.low + t.low) ↔ _
  unfold sat; omega
theorem zls (b c : Pt) (h : 0 < (lenP b).low) : 0 < (lenP (joinP 3 [b, c])).low := by
  rw [zc5, List.map_cons, zbD _ (zbg b), zh7]; exact .inl h
theorem zf1 {b : Pt} (hb : starP b = true) (hl : 0 < (lenP b).low) : ∀ n : Nat, starP (tailP b n) = true
  | 0 => zdN hb hl
  | n + 1 => zdN (zeo (by decide) fun x hx => by
    rcases List.mem_cons.1 hx with rfl | hx
    · exact hb
    · obtain rfl := List.mem_singleton.1 hx; exact zf1 hb hl n) (zls b _ hl)
theorem zhH : ∀ p : Pt, rightP p = true → endsP p = true → starP (normal p) = true := Pt.ind fun p ih h he => by
  have hr := za3 h
  rw [zgI, Bool.and_eq_true, List.all_eq_true] at he
  obtain ⟨h0, he⟩ := he
  rcases zbF h with hk | hk | hk | hk | hk
  · rw [za1 (.inl hk), zcq, zbY h (.inl hk), hk]; rfl
  · rw [za1 (.inr hk), zcq, zbY h (.inr hk), hk]; rfl
  rotate_left 2
  · obtain ⟨⟨k, hkk, hkr⟩, h1, h2, h3⟩ := za6 h hk
    rw [zby hk hkk]
    have hmem : k ∈ p.kids := by rw [hkk]; exact List.mem_cons_self
    have hf := ih k hmem hkr (he k hmem)
    have hl : 0 < (lenP (normal k)).low := by
      rw [ziH k hkr]
      unfold endB at h0
      rw [hkk, hk] at h0
      simpa using h0
    refine zeo (by decide) fun x hx => ?_
    rcases List.mem_append.1 hx with hx | hx
    · rw [(List.mem_replicate.1 hx).2]; exact hf
    · unfold moreP at hx
      split at hx
      · obtain rfl := List.mem_singleton.1 hx; exact zdN hf hl
      · split at hx
        · obtain rfl := List.mem_singleton.1 hx; exact zf1 hf hl _
        · cases hx
  all_goals
    rw [zbq (by omega)]
    refine zeo (by omega) fun x hx => ?_
    obtain ⟨y, hy, rfl⟩ := List.mem_map.1 hx
    exact ih y hy (hr y hy) (he y hy)
def wtP : Pt → Nat := foldP fun p ks => (if p.kind = 5 then 2 else if p.kind = 1 then 1 else 0) + ks.sum
theorem zl1 (p : Pt) : wtP p = (if p.kind = 5 then 2 else if p.kind = 1 then 1 else 0) + (p.kids.map wtP).sum := by unfold wtP; rw [za8]
def mayB (E : List Pt) (v : Mv) : Bool := v.elem == -1 || match E[v.elem.toNat]? with
  | none => false
  | some p => p.kind == 1
structure Rk (E : List Pt) (m m' : Mach) (f g : Int → Int) : Prop where
  ag : ∀ x, x < m.states → g x = f x
  st : m.states ≤ m'.states
  mv : ∃ new, m'.moves = m.moves ++ new ∧ ∀ v ∈ new, v.src < m'.states ∧ v.dst < m'.states ∧ (mayB E v = true → g v.dst < g v.src)
theorem Rk.nil {E : List Pt} {m : Mach} {f : Int → Int} : Rk E m m f f := ⟨fun _ _ => rfl, Int.le_refl _, [], by simp, by simp⟩
theorem Rk.trans {E : List Pt} {m m' m2 : Mach} {f g h : Int → Int} (h1 : Rk E m m' f g) (h2 : Rk E m' m2 g h) : Rk E m m2 f h := by
  obtain ⟨a1, a2, n1, a3, a4⟩ := h1
  obtain ⟨b1, b2, n2, b3, b4⟩ := h2
  refine ⟨fun x hx => by rw [b1 x (by omega), a1 x hx], by omega, n1 ++ n2, by rw [b3, a3, List.append_assoc], fun v hv => ?_⟩
  rcases List.mem_append.1 hv with hv | hv
  · obtain ⟨c1, c2, c3⟩ := a4 v hv
    refine ⟨by omega, by omega, fun hm => ?_⟩
    rw [b1 _ c1, b1 _ c2]; exact c3 hm
  · exact b4 v hv
theorem Rk.free {E : List Pt} {m : Mach} {f : Int → Int} {s t : Int} (hs : s < m.states) (ht : t < m.states) (h : f t < f s) : Rk E m (mvM s t (-1) m) f f :=
  ⟨fun _ _ => rfl, Int.le_refl _, [⟨s, t, -1⟩], rfl, fun v hv => by obtain rfl := List.mem_singleton.1 hv; exact ⟨hs, ht, fun _ => h⟩⟩
def putR (f : Int → Int) (n c : Int) (x : Int) : Int := if x = n then c else f x
theorem zev {f : Int → Int} {n c : Int} : putR f n c n = c := if_pos rfl
theorem zdq {f : Int → Int} {n c x : Int} (h : x ≠ n) : putR f n c x = f x := if_neg h
theorem Rk.new {E : List Pt} {m : Mach} {f : Int → Int} (c : Int) : Rk E m (stM m) f (putR f m.states c) :=
  ⟨fun x hx => zdq (by omega), by show m.states ≤ m.states + 1; omega, [], by simp [stM], by simp⟩
theorem zlw {l : List Sp} {s : Sp} (h : s ∈ l) (h0 : s.low = 0) : (altS l).low = 0 := by
  have key : ∀ (l : List Sp) (t : Sp), (t.low = 0 ∨ s ∈ l) → (l.foldl orS t).low = 0 := fun l => by
    induction l with
    | nil => intro t h; exact h.resolve_right (by simp)
    | cons u l ih =>
      intro t h
      rw [List.foldl_cons]
      refine ih _ ?_
      rcases h with h | h
      · exact .inl (by show min t.low u.low = 0; omega)
      · rcases List.mem_cons.1 h with rfl | h
        · exact .inl (by show min t.low s.low = 0; omega)
        · exact .inr h
  cases l with
  | nil => cases h
  | cons t l =>
    refine key l t ?_
    rcases List.mem_cons.1 h with rfl | h
    · exact .inl h0
    · exact .inr h
theorem zg1 : ∀ {l : List Pt}, (∀ k ∈ l, (lenP k).low = 0) → (spanS (l.map lenP)).low = 0
  | [], _ => rfl
  | k :: l, h => by
    have h1 := h k List.mem_cons_self
    have h2 := zg1 (l := l) fun x hx => h x (List.mem_cons_of_mem _ hx)
    rw [List.map_cons, zbD _ (zbg k)]
    have := zh7 (lenP k) (spanS (l.map lenP))
    omega
theorem zfI (p : Pt) (s t : Int) (m : Mach) (h : shapeP p = true) : (layM p s t m).elems = m.elems ++ elems p ∧ m.states ≤ (layM p s t m).states := ⟨(zfc p s t m h).el, by have := (zfc p s t m h).st; omega⟩
theorem zkx (E : List Pt) : ∀ (p : Pt) (s t : Int) (m : Mach) (f : Int → Int), shapeP p = true → starP p = true → s < m.states → t < m.states → (layM p s t m).elems <+: E → ((lenP p).low = 0 → f t + wtP p ≤ f s) → ∃ g, Rk E m (layM p s t m) f g := Pt.ind fun p ih s t m f hs hst hsl htl hE hc => by
  have hsk := zbv hs
  have htk := zf7 hst
  have hw := zl1 p
  have hl := zcp p
  rcases zbC hs with ⟨hk, hk0⟩ | ⟨hk, hne⟩ | ⟨hk, ⟨k, hkk⟩, hm⟩
  · rw [zb9 hk] at hE ⊢
    have hp : E[m.elems.length]? = some p := by
      obtain ⟨r, hr⟩ := hE
      rw [← hr]
      simp [elM, mvM]
    refine ⟨f, fun _ _ => rfl, Int.le_refl _, [⟨s, t, m.elems.length⟩], rfl, fun v hv => ?_⟩
    obtain rfl := List.mem_singleton.1 hv
    refine ⟨hsl, htl, fun hmay => ?_⟩
    unfold mayB at hmay
    dsimp only at hmay ⊢
    rw [Int.toNat_natCast, hp] at hmay
    have hk1 : p.kind = 1 := by
      have : ((m.elems.length : Int) == -1) = false := by
        rw [beq_eq_false_iff_ne]; omega
      rw [this] at hmay
      simpa using hmay
    rw [if_pos hk1] at hl
    rw [if_neg (by omega), if_pos hk1] at hw
    have := hc (by rw [hl]; rfl)
    omega
  · by_cases k3 : p.kind = 3
    · rw [if_neg (by omega), if_neg (by omega), if_neg (by omega), if_neg (by omega)] at hl
      rw [if_neg (by omega), if_neg (by omega)] at hw
      have hlen : 0 < p.kids.length := List.length_pos_iff.2 hne
      obtain ⟨k, hkl⟩ : ∃ k, p.kids[p.kids.length - 1]? = some k := ⟨_, List.getElem?_eq_getElem (by omega)⟩
      have hmem := List.mem_of_getElem? hkl
      have hsp : p.kids = p.kids.take (p.kids.length - 1) ++ [k] := by
        conv => lhs; rw [← List.take_append_drop (p.kids.length - 1) p.kids]
        congr 1
        rw [List.drop_eq_getElem_cons (by omega), (List.getElem?_eq_some_iff.1 hkl).2, List.drop_eq_nil_of_le (by omega)]
      have key : ∀ (l : List Pt), (∀ x ∈ l, x ∈ p.kids) → ∀ (x : Int × Mach) (f : Int → Int), x.1 < x.2.states → t < x.2.states → (layM k (l.foldl upP x).1 t (l.foldl upP x).2).elems <+: E → (((∀ y ∈ l, (lenP y).low = 0) ∧ (lenP k).low = 0) → f t + (l.map wtP).sum + wtP k ≤ f x.1) →
          ∃ g, Rk E x.2 (layM k (l.foldl upP x).1 t (l.foldl upP x).2) f g := by
        intro l
        induction l with
        | nil =>
          intro _ x f h1 h2 h3 h4
          exact ih k hmem x.1 t x.2 f (hsk k hmem) (htk k hmem) h1 h2 h3 fun h0 => by
            have := h4 ⟨by simp, h0⟩
            simpa using this
        | cons a l ihl =>
          intro hal x f h1 h2 h3 h4
          rw [List.foldl_cons] at h3 ⊢
          have ham := hal a List.mem_cons_self
          have hpre : ∀ (l : List Pt), (∀ x ∈ l, x ∈ p.kids) → ∀ (x : Int × Mach), x.2.elems <+: (l.foldl upP x).2.elems := by
            intro l
            induction l with
            | nil => intro _ x; exact ⟨[], by simp⟩
            | cons b l ihb =>
              intro hb x
              rw [List.foldl_cons]
              refine List.IsPrefix.trans ?_ (ihb (fun y hy => hb y (List.mem_cons_of_mem _ hy)) (upP x b))
              have := (zfI b x.1 x.2.states (stM x.2) (hsk b (hb b List.mem_cons_self))).1
              exact ⟨elems b, this.symm⟩
          have hpa : (upP x a).2.elems <+: E := by
            refine List.IsPrefix.trans (hpre l (fun y hy => hal y (List.mem_cons_of_mem _ hy)) (upP x a)) (List.IsPrefix.trans ?_ h3)
            exact ⟨elems k, ((zfI k _ t _ (hsk k hmem)).1).symm⟩
          obtain ⟨c, hc1, hc2⟩ : ∃ c : Int, ((lenP a).low = 0 → c + wtP a ≤ f x.1) ∧ (((∀ y ∈ l, (lenP y).low = 0) ∧ (lenP k).low = 0) → f t + (l.map wtP).sum + wtP k ≤ c) := by
            by_cases h0 : (lenP a).low = 0
            · refine ⟨f x.1 - wtP a, fun _ => by omega, fun ⟨q1, q2⟩ => ?_⟩
              have := h4 ⟨fun y hy => by
                rcases List.mem_cons.1 hy with rfl | hy
                · exact h0
                · exact q1 y hy, q2⟩
              rw [List.map_cons, List.sum_cons] at this
              push_cast at this
              omega
            · exact ⟨f t + (l.map wtP).sum + wtP k, fun h => absurd h h0, fun _ => Int.le_refl _⟩
          have hnew : Rk E x.2 (stM x.2) f (putR f x.2.states c) := Rk.new c
          have e1 : putR f x.2.states c x.1 = f x.1 := zdq (by omega)
          obtain ⟨g1, hg1⟩ := ih a ham x.1 x.2.states (stM x.2) (putR f x.2.states c) (hsk a ham) (htk a ham) (by show x.1 < x.2.states + 1; omega) (by show x.2.states < x.2.states + 1; omega) hpa fun h0 => by
            rw [zev, e1]; exact hc1 h0
          have h12 := hnew.trans hg1
          have hst2 : x.2.states + 1 ≤ (upP x a).2.states := hg1.st
          obtain ⟨g2, hg2⟩ := ihl (fun y hy => hal y (List.mem_cons_of_mem _ hy)) (upP x a) g1 (by show x.2.states < _; omega) (by omega) h3 fun h0 => by
            have q1 : g1 (upP x a).1 = c := by
              show g1 x.2.states = c
              rw [hg1.ag _ (by show x.2.states < x.2.states + 1; omega), zev]
            have q2 : g1 t = f t := by rw [hg1.ag _ (by show t < x.2.states + 1; omega), zdq (by omega)]
            rw [q1, q2]; exact hc2 h0
          exact ⟨g2, h12.trans hg2⟩
      rw [zc1 k3 hkl] at hE ⊢
      refine key (p.kids.take (p.kids.length - 1)) (fun y hy => List.mem_of_mem_take hy) (s, m) f hsl htl hE fun ⟨q1, q2⟩ => ?_
      have h0 : (lenP p).low = 0 := by
        rw [hl]
        refine zg1 fun y hy => ?_
        rw [hsp] at hy
        rcases List.mem_append.1 hy with hy | hy
        · exact q1 y hy
        · obtain rfl := List.mem_singleton.1 hy; exact q2
      have := hc h0
      have e2 : (p.kids.map wtP).sum = ((p.kids.take (p.kids.length - 1)).map wtP).sum + wtP k := by
        conv => lhs; rw [hsp]
        rw [List.map_append, List.sum_append]; simp
      dsimp only
      omega
    · have k4 : p.kind = 4 := by omega
      rw [if_neg (by omega), if_neg (by omega), if_neg (by omega), if_pos k4] at hl
      rw [if_neg (by omega), if_neg (by omega)] at hw
      rw [zcY k4] at hE ⊢
      have hpre : ∀ (l : List Pt), (∀ x ∈ l, x ∈ p.kids) → ∀ (x : Mach), x.elems <+: (l.foldl (fun m k => layM k s t m) x).elems := by
        intro l
        induction l with
        | nil => intro _ x; exact ⟨[], by simp⟩
        | cons b l ihb =>
          intro hb x
          rw [List.foldl_cons]
          refine List.IsPrefix.trans ?_ (ihb (fun y hy => hb y (List.mem_cons_of_mem _ hy)) _)
          exact ⟨elems b, ((zfI b s t x (hsk b (hb b List.mem_cons_self))).1).symm⟩
      have key : ∀ (l : List Pt), (∀ x ∈ l, x ∈ p.kids) → ∀ (x : Mach) (f : Int → Int), s < x.states → t < x.states → (l.foldl (fun m k => layM k s t m) x).elems <+: E → ((lenP p).low = 0 → f t + wtP p ≤ f s) →
          ∃ g, Rk E x (l.foldl (fun m k => layM k s t m) x) f g := by
        intro l
        induction l with
        | nil => intro _ x f _ _ _ _; exact ⟨f, Rk.nil⟩
        | cons a l ihl =>
          intro hal x f h1 h2 h3 h4
          rw [List.foldl_cons] at h3 ⊢
          have ham := hal a List.mem_cons_self
          have hwa : wtP a ≤ wtP p := by rw [hw]; have := zfK wtP p.kids a ham; omega
          obtain ⟨g1, hg1⟩ := ih a ham s t x f (hsk a ham) (htk a ham) h1 h2 (List.IsPrefix.trans (hpre l (fun y hy => hal y (List.mem_cons_of_mem _ hy)) _) h3) fun h0 => by
            have := h4 (by rw [hl]; exact zlw (List.mem_map_of_mem ham) h0)
            omega
          have := hg1.st
          obtain ⟨g2, hg2⟩ := ihl (fun y hy => hal y (List.mem_cons_of_mem _ hy)) _ g1 (by omega) (by omega) h3 fun h0 => by
            rw [hg1.ag s h1, hg1.ag t h2]; exact h4 h0
          exact ⟨g2, hg1.trans hg2⟩
      exact key p.kids (fun _ h => h) m f hsl htl hE hc
  · have hmem : k ∈ p.kids := by rw [hkk]; exact List.mem_cons_self
    obtain ⟨hmin, hlow⟩ := ziZ hst hk hkk
    have h0 : (lenP p).low = 0 := by
      rw [zca hk hkk, hmin]
      show sat ((lenP k).low * 0) = 0
      rw [Nat.mul_zero]; rfl
    have hc := hc h0
    rw [if_pos hk, hkk] at hw
    simp only [List.map_cons, List.map_nil, List.sum_cons, List.sum_nil, Nat.add_zero] at hw
    rcases hm with hm | hm
    · rw [zc0 hk hkk hm] at hE ⊢
      obtain ⟨g, hg⟩ := ih k hmem s t (mvM s t (-1) m) f (hsk k hmem) (htk k hmem) hsl htl hE fun h => by omega
      exact ⟨g, (Rk.free hsl htl (by omega)).trans hg⟩
    · rw [zb7 hk hkk (by omega)] at hE ⊢
      have h1 : Rk E m (stM m) f (putR f m.states (f t + 1)) := Rk.new _
      have es : putR f m.states (f t + 1) s = f s := zdq (by omega)
      have et : putR f m.states (f t + 1) t = f t := zdq (by omega)
      have h2 : Rk E (stM m) (mvM s m.states (-1) (stM m)) (putR f m.states (f t + 1)) (putR f m.states (f t + 1)) := Rk.free (by show s < m.states + 1; omega) (by show m.states < m.states + 1; omega) (by rw [zev, es]; omega)
      obtain ⟨g, hg⟩ := ih k hmem m.states m.states (mvM s m.states (-1) (stM m)) (putR f m.states (f t + 1)) (hsk k hmem) (htk k hmem) (by show m.states < m.states + 1; omega) (by show m.states < m.states + 1; omega) hE fun h => by omega
      have hgs : m.states + 1 ≤ (layM k m.states m.states (mvM s m.states (-1) (stM m))).states := hg.st
      refine ⟨g, ((h1.trans h2).trans hg).trans (Rk.free (by omega) (by omega) ?_)⟩
      rw [hg.ag t (by show t < m.states + 1; omega), hg.ag m.states (by show m.states < m.states + 1; omega), zev, et]; omega
theorem ziu {p : Pt} (hs : shapeP p = true) (hst : starP p = true) : ∃ g : Int → Int, ∀ v ∈ (buildM p).moves, mayB (buildM p).elems v = true → g v.dst < g v.src := by
  obtain ⟨g, _, _, new, h1, h2⟩ := zkx (buildM p).elems p 0 1 ⟨[], [], 2⟩ (fun x => if x = 0 then wtP p else 0) hs hst (by decide) (by decide) ⟨[], List.append_nil _⟩ fun _ => by simp
  refine ⟨g, fun v hv => (h2 v ?_).2.2⟩
  have : (buildM p).moves = [] ++ new := h1
  rw [this] at hv; simpa using hv
theorem zdj {p q : Nat → Bool} : ∀ {l : List Nat}, (∀ x ∈ l, p x = true → q x = true) → (∃ x ∈ l, q x = true ∧ p x = false) → l.countP p < l.countP q
  | [], _, ⟨x, hx, _⟩ => by cases hx
  | a :: l, h, ⟨x, hx, h1, h2⟩ => by
    have hm : l.countP p ≤ l.countP q := List.countP_mono_left fun y hy => h y (List.mem_cons_of_mem _ hy)
    rw [List.countP_cons, List.countP_cons]
    by_cases hxl : x ∈ l
    · have := zdj (fun y hy => h y (List.mem_cons_of_mem _ hy)) ⟨x, hxl, h1, h2⟩
      have ha := h a List.mem_cons_self
      by_cases hp : p a = true
      · rw [if_pos hp, if_pos (ha hp)]; omega
      · rw [if_neg hp]; omega
    · obtain rfl : x = a := by
        rcases List.mem_cons.1 hx with h | h
        · exact h
        · exact absurd h hxl
      rw [if_neg (by simp [h2]), if_pos h1]; omega
def rkN (g : Int → Int) (n : Nat) (x : Int) : Nat := (List.range n).countP fun y : Nat => decide (g (y : Int) < g x)
theorem zms {g : Int → Int} {n : Nat} {x : Int} (h0 : 0 ≤ x) (hx : x < n) : rkN g n x < n := by
  have h1 : (List.range n).countP (fun y : Nat => decide (g (y : Int) < g x)) < (List.range n).countP fun _ => true := zdj (fun _ _ _ => rfl) ⟨x.toNat, List.mem_range.2 (by omega), rfl, by rw [Int.toNat_of_nonneg h0]; simp⟩
  have h2 : ((List.range n).countP fun _ => true) ≤ n := by
    have := List.countP_le_length (p := fun _ : Nat => true) (l := List.range n)
    rwa [List.length_range] at this
  unfold rkN; omega
theorem zkC {g : Int → Int} {n : Nat} {x y : Int} (h0 : 0 ≤ x) (hx : x < n) (h : g x < g y) : rkN g n x < rkN g n y := by
  unfold rkN
  refine zdj (fun z _ hz => ?_) ⟨x.toNat, List.mem_range.2 (by omega), ?_, ?_⟩
  · simp only [decide_eq_true_eq] at hz ⊢; omega
  · rw [Int.toNat_of_nonneg h0]; simpa using h
  · rw [Int.toNat_of_nonneg h0]; simp
end Go.Proofs.YtjhkehloipmjfaaGreat
namespace Go.Proofs.YtjhkehloipmjfaaGreat
open Go.RowKit
def capN (n : Nat) : Nat := min n 1001
theorem zgT (n : Nat) : capN n ≤ 1001 := Nat.min_le_right _ _
theorem zlp (a b : Nat) : capN (capN a + b) = capN (a + b) := by unfold capN; omega
structure Rn where
  mv : List Mv
  st : Nat → Mv → Bool
  go : Nat → Mv → Bool
  L : Nat
def Rn.base (R : Rn) (s : Int) (i : Nat) : Nat := if s = 1 ∧ i = R.L then 1 else 0
def Rn.part (R : Rn) (a b : Int → Nat) (i : Nat) (v : Mv) : Nat := if R.st i v = true then a v.dst else if i < R.L ∧ R.go i v = true then b v.dst else 0
def Rn.tot (R : Rn) (a b : Int → Nat) (s : Int) (i : Nat) (l : List Mv) : Nat := (l.map fun v => if v.src = s then R.part a b i v else 0).sum
def Rn.runF (R : Rn) : Nat → Int → Nat → Nat
  | 0, _, _ => 0
  | k + 1, s, i => capN (R.base s i + R.tot (fun d => R.runF k d i) (fun d => R.runF k d (i + 1)) s i R.mv)
theorem zgb {α : Type} {f g : α → Nat} : ∀ {l : List α}, (∀ x ∈ l, f x = g x) → (l.map f).sum = (l.map g).sum
  | [], _ => rfl
  | x :: l, h => by rw [List.map_cons, List.map_cons, List.sum_cons, List.sum_cons, h x List.mem_cons_self, zgb fun y hy => h y (List.mem_cons_of_mem _ hy)]
theorem Rn.tot_congr (R : Rn) {a b a' b' : Int → Nat} {s : Int} {i : Nat} {l : List Mv} (h : ∀ v ∈ l, v.src = s → R.part a b i v = R.part a' b' i v) : R.tot a b s i l = R.tot a' b' s i l :=
  zgb fun v hv => by
    split
    · rename_i e; exact h v hv e
    · rfl
theorem Rn.tot_app (R : Rn) (a b : Int → Nat) (s : Int) (i : Nat) (l m : List Mv) : R.tot a b s i (l ++ m) = R.tot a b s i l + R.tot a b s i m := by unfold Rn.tot; rw [List.map_append, List.sum_append]
theorem Rn.tot_next (R : Rn) (a b : Int → Nat) (s : Int) (i : Nat) {l : List Mv} {j : Nat} {v : Mv} (h : l[j]? = some v) : R.tot a b s i (l.take (j + 1)) = R.tot a b s i (l.take j) + if v.src = s then R.part a b i v else 0 := by
  obtain ⟨hlt, rfl⟩ := List.getElem?_eq_some_iff.1 h
  rw [List.take_succ_eq_append_getElem hlt, R.tot_app]
  simp [Rn.tot]
theorem Rn.tot_le (R : Rn) {a b : Int → Nat} (ha : ∀ d, a d ≤ 1001) (hb : ∀ d, b d ≤ 1001) (s : Int) (i : Nat) : ∀ l : List Mv, R.tot a b s i l ≤ 1001 * l.length
  | [] => Nat.zero_le _
  | v :: l => by
    have := R.tot_le ha hb s i l
    unfold Rn.tot at this ⊢
    rw [List.map_cons, List.sum_cons, List.length_cons]
    have h1 : (if v.src = s then R.part a b i v else 0) ≤ 1001 := by
      unfold Rn.part
      have := ha v.dst
      have := hb v.dst
      split
      · split
        · omega
        · split <;> omega
      · omega
    omega
structure Rn.Ok (R : Rn) (rk : Int → Nat) (n : Nat) : Prop where
  dom : ∀ v ∈ R.mv, 0 ≤ v.src ∧ v.src < n ∧ 0 ≤ v.dst ∧ v.dst < n
  lt : ∀ x : Int, 0 ≤ x → x < n → rk x < n
  mono : ∀ i, ∀ v ∈ R.mv, R.st i v = true → rk v.dst < rk v.src
def Rn.mu (R : Rn) (rk : Int → Nat) (n : Nat) (s : Int) (i : Nat) : Nat := (R.L - i) * (n + 1) + rk s
section
variable {R : Rn} {rk : Int → Nat} {n : Nat}
theorem Rn.Ok.stay (h : R.Ok rk n) {v : Mv} (hv : v ∈ R.mv) {i : Nat} (hs : R.st i v = true) : R.mu rk n v.dst i < R.mu rk n v.src i := by
  have := h.mono i v hv hs
  unfold Rn.mu; omega
theorem Rn.Ok.goes (h : R.Ok rk n) {v : Mv} (hv : v ∈ R.mv) {i : Nat} (hi : i < R.L) : R.mu rk n v.dst (i + 1) < R.mu rk n v.src i := by
  obtain ⟨_, _, h3, h4⟩ := h.dom v hv
  have := h.lt v.dst h3 h4
  unfold Rn.mu
  obtain ⟨k, hk⟩ : ∃ k, R.L - i = k + 1 := ⟨R.L - i - 1, by omega⟩
  rw [hk, show R.L - (i + 1) = k by omega, Nat.succ_mul]; omega
theorem Rn.Ok.steady (h : R.Ok rk n) : ∀ (k k' : Nat) (s : Int) (i : Nat), R.mu rk n s i < k → R.mu rk n s i < k' → R.runF k s i = R.runF k' s i
  | 0, _, _, _, h1, _ => by omega
  | _, 0, _, _, _, h2 => by omega
  | k + 1, k' + 1, s, i, h1, h2 => by
    unfold Rn.runF
    congr 2
    refine R.tot_congr fun v hv e => ?_
    unfold Rn.part
    split
    · rename_i hs
      have := h.stay hv hs
      rw [e] at this
      exact h.steady k k' v.dst i (by omega) (by omega)
    · split
      · rename_i hg
        have := h.goes hv hg.1
        rw [e] at this
        exact h.steady k k' v.dst (i + 1) (by omega) (by omega)
      · rfl
def Rn.runs (R : Rn) (n : Nat) (s : Int) (i : Nat) : Nat := R.runF ((R.L + 1) * (n + 1)) s i
theorem Rn.runs_le (R : Rn) (n : Nat) (s : Int) (i : Nat) : R.runs n s i ≤ 1001 := by
  unfold Rn.runs
  cases (R.L + 1) * (n + 1) with
  | zero => exact Nat.zero_le _
  | succ k => exact zgT _
theorem Rn.Ok.mu_lt (h : R.Ok rk n) {s : Int} (h0 : 0 ≤ s) (h1 : s < n) (i : Nat) : R.mu rk n s i < (R.L + 1) * (n + 1) := by
  have := h.lt s h0 h1
  unfold Rn.mu
  have h2 : (R.L - i) * (n + 1) ≤ R.L * (n + 1) := Nat.mul_le_mul_right _ (by omega)
  rw [Nat.succ_mul]; omega
theorem Rn.Ok.runs_eq (h : R.Ok rk n) {s : Int} (h0 : 0 ≤ s) (h1 : s < n) (i : Nat) : R.runs n s i = capN (R.base s i + R.tot (fun d => R.runs n d i) (fun d => R.runs n d (i + 1)) s i R.mv) := by
  have hmu := h.mu_lt h0 h1 i
  unfold Rn.runs
  obtain ⟨k, hk⟩ : ∃ k, (R.L + 1) * (n + 1) = k + 1 := ⟨R.L * (n + 1) + n, by rw [Nat.succ_mul]; rfl⟩
  rw [hk] at hmu ⊢
  conv => lhs; unfold Rn.runF
  congr 2
  refine R.tot_congr fun v hv e => ?_
  unfold Rn.part
  split
  · rename_i hs
    have := h.stay hv hs
    rw [e] at this
    exact h.steady k (k + 1) v.dst i (by omega) (by omega)
  · split
    · rename_i hg
      have := h.goes hv hg.1
      rw [e] at this
      exact h.steady k (k + 1) v.dst (i + 1) (by omega) (by omega)
    · rfl
def Rn.round (R : Rn) (next : Int → Nat) (i : Nat) : Nat → Int → Nat
  | 0, _ => 0
  | k + 1, s => capN (R.base s i + R.tot (R.round next i k) next s i R.mv)
theorem Rn.Ok.round_eq (h : R.Ok rk n) {next : Int → Nat} {i : Nat} (hn : i < R.L → ∀ d : Int, 0 ≤ d → d < n → next d = R.runs n d (i + 1)) : ∀ (k : Nat) (s : Int), 0 ≤ s → s < n → rk s < k → R.round next i k s = R.runs n s i
  | 0, _, _, _, h => by omega
  | k + 1, s, h0, h1, hk => by
    rw [h.runs_eq h0 h1]
    unfold Rn.round
    congr 2
    refine R.tot_congr fun v hv e => ?_
    obtain ⟨_, _, q3, q4⟩ := h.dom v hv
    unfold Rn.part
    split
    · rename_i hs
      have := h.mono i v hv hs
      rw [e] at this
      exact h.round_eq hn k v.dst q3 q4 (by omega)
    · split
      · rename_i hg; exact hn hg.1 v.dst q3 q4
      · rfl
theorem Rn.Ok.round_all (h : R.Ok rk n) {next : Int → Nat} {i : Nat} (hn : i < R.L → ∀ d : Int, 0 ≤ d → d < n → next d = R.runs n d (i + 1)) {s : Int} (h0 : 0 ≤ s) (h1 : s < n) : R.round next i (n + 1) s = R.runs n s i :=
  h.round_eq hn (n + 1) s h0 h1 (by have := h.lt s h0 h1; omega)
end
def rowF (f : Int → Nat) (n : Nat) : List Int := (List.range n).map fun i => ((f (i : Nat) : Nat) : Int)
theorem zbP (f : Int → Nat) (n : Nat) : (rowF f n).length = n := by unfold rowF; simp
theorem zcn {f : Int → Nat} {n i : Nat} (h : i < n) : (rowF f n)[i]? = some ((f (i : Int) : Nat) : Int) := by unfold rowF; simp [h]
theorem zcQ {f g : Int → Nat} {n : Nat} (h : ∀ i : Int, 0 ≤ i → i < n → f i = g i) : rowF f n = rowF g n := by
  unfold rowF
  refine List.map_congr_left fun i hi => ?_
  have := List.mem_range.1 hi
  rw [h i (by omega) (by omega)]
theorem zgH {f : Int → Nat} {n i : Nat} (h : i < n) (c : Nat) : (rowF f n).set i (c : Int) = rowF (fun x => if x = (i : Int) then c else f x) n := by
  apply List.ext_getElem?
  intro j
  rw [List.getElem?_set, zbP]
  by_cases hj : j < n
  · rw [zcn hj, zcn hj]
    by_cases e : i = j
    · subst e; simp [h]
    · rw [if_neg e, if_neg (by omega)]
  · rw [List.getElem?_eq_none (by rw [zbP]; omega), List.getElem?_eq_none (by rw [zbP]; omega)]
    rw [if_neg (by omega)]
def Rn.acc (R : Rn) (a b : Int → Nat) (i : Nat) (l : List Mv) (s : Int) : Nat := capN (R.base s i + R.tot a b s i l)
theorem Rn.acc_nil (R : Rn) (a b : Int → Nat) (i : Nat) (s : Int) : R.acc a b i [] s = R.base s i := by
  unfold Rn.acc Rn.tot Rn.base capN
  split <;> simp
theorem Rn.acc_next (R : Rn) (a b : Int → Nat) (i : Nat) {l : List Mv} {j : Nat} {v : Mv} (h : l[j]? = some v) (s : Int) : R.acc a b i (l.take (j + 1)) s = if s = v.src then capN (R.acc a b i (l.take j) s + R.part a b i v) else R.acc a b i (l.take j) s := by
  unfold Rn.acc
  rw [R.tot_next a b s i h, zlp]
  by_cases e : v.src = s
  · rw [if_pos e, if_pos e.symm, Nat.add_assoc]
  · rw [if_neg e, if_neg (fun h => e h.symm), Nat.add_zero]
theorem Rn.acc_zero (R : Rn) (a b : Int → Nat) (i : Nat) {l : List Mv} {j : Nat} {v : Mv} (h : l[j]? = some v) (h0 : R.part a b i v = 0) : R.acc a b i (l.take (j + 1)) = R.acc a b i (l.take j) := funext fun s => by
  rw [R.acc_next a b i h, h0]
  split
  · unfold Rn.acc; rw [Nat.add_zero]; unfold capN; omega
  · rfl
theorem Rn.round_acc (R : Rn) (next : Int → Nat) (i k : Nat) : R.round next i (k + 1) = R.acc (R.round next i k) next i R.mv := rfl
end Go.Proofs.YtjhkehloipmjfaaGreat
