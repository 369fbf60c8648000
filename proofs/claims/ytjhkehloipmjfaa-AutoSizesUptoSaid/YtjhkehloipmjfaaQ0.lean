/- The steps of MC .. MG with what they ask found by itself. -/
import Derived.Test.YtjhkehloipmjfaaMG
import Derived.Test.YtjhkehloipmjfaaN0
namespace Go.Proofs.Ytjhkehloipmjfaa
open Go.RowKit
def split6 (l : List Oper) : Option (List Oper × Oper × Oper × Oper × Oper × Oper × Oper) := match splitLast l with
  | some (l5, o5) => match splitLast l5 with
    | some (l4, o4) => match splitLast l4 with
      | some (l3, o3) => match splitLast l3 with
        | some (l2, o2) => match splitLast l2 with
          | some (l1, o1) => match splitLast l1 with
            | some (l0, o0) => some (l0, o0, o1, o2, o3, o4, o5)
            | none => none
          | none => none
        | none => none
      | none => none
    | none => none
  | none => none
theorem split6_eq {l1 l : List Oper} {a b c d e f : Oper} (h : split6 l1 = some (l, a, b, c, d, e, f)) : l1 = l ++ [a, b, c, d, e, f] := by
  unfold split6 at h
  split at h
  · rename_i l5 o5 h5
    split at h
    · rename_i l4 o4 h4
      split at h
      · rename_i l3 o3 h3
        split at h
        · rename_i l2 o2 h2
          split at h
          · rename_i l1' o1 h1
            split at h
            · rename_i l0 o0 h0
              injection h with h
              obtain ⟨rfl, rfl, rfl, rfl, rfl, rfl, rfl⟩ : l0 = l ∧ o0 = a ∧ o1 = b ∧ o2 = c ∧ o3 = d ∧ o4 = e ∧ o5 = f := by simpa using h
              rw [splitLast_eq h5, splitLast_eq h4, splitLast_eq h3, splitLast_eq h2, splitLast_eq h1, splitLast_eq h0]
              simp
            · cases h
          · cases h
        · cases h
      · cases h
    · cases h
  · cases h
section
variable {w0 : W0} {S0 : Nat → Nat → Prop} {nt : Nat} {fr fr1 : Fr} {σ σ1 : Obs} {QQ : Exit → Fr → Obs → Prop}
/-- a region whose order is open, which puts a struct behind a slice of one's own -/
theorem uBig {id : Nat} {l1 l : List Oper} {oA oI oS oN oF oH : Oper} (h : DSeq (cx nt w0 S0) l1.toArray [] σ (fun fr σ => TailOk (cx nt w0 S0) l [oA, oI, oS, oN, oF, oH] fr σ (LQ (cx nt w0 S0) QQ)) 0 [] [] l fr) (hl : split6 l1 = some (l, oA, oI, oS, oN, oF, oH) := by rfl) (hok : preOk l [oA, oI, oS, oN, oF, oH] = true := by kernel_rfl) : W (cx nt w0 S0) (.region id l1.toArray true) fr σ QQ := by
  have e := split6_eq hl
  subst e
  exact W_pre (X := cx nt w0 S0) mixed_ [] σ (by simp) hok (fun p hp => by cases hp) (fun _ _ h => h) h
def apart3 (L : List Nat) (a b c : Nat) : Bool := L.all fun d => !Nat.beq a d && (!Nat.beq b d && !Nat.beq c d)
theorem apart3_at {L : List Nat} {a b c : Nat} (h : apart3 L a b c = true) : ∀ d ∈ L, a ≠ d ∧ b ≠ d ∧ c ≠ d := fun d hd => by
  unfold apart3 at h
  rw [List.all_eq_true] at h
  have := h d hd
  simp only [Bool.and_eq_true, Bool.not_eq_true'] at this
  exact ⟨Nat.ne_of_beq_eq_false this.1, Nat.ne_of_beq_eq_false this.2.1, Nat.ne_of_beq_eq_false this.2.2⟩
theorem uTail {l : List Oper} {oA oI oS oN oF oH : Oper} {dA dI dN dF tS tX tI tV tP : Nat} {t e tO ty0 : TypeId} {f off k k0 sz : Nat} {ti ie i0 : TyI} {rows rs : List (List D)} {Z cs : List D} {c0 c1 : List C} {z : Int}
    (h : RL (cx nt w0 S0) #[] [] ((dF, .one (.po k0 off)) :: (dN, .one (.po k0 0)) :: (dI, .junk) :: (dA, .one (.own dA rs)) :: fr1) ((k0, .obj ty0 c1) :: (dA, .tok e sz) :: σ1) (QQ .normal))
    (oA_ : oA.op = .call { callee := .builtin .append, args := #[.tmp tS, .tmp tX], argTypes := #[t, t] } := by rfl) (dA_ : oA.dst = some dA := by rfl) (oI_ : oI.op = .indexAddr t (.tmp dA) (.tmp tI) := by rfl) (dI_ : oI.dst = some dI := by rfl) (oS_ : oS.op = .store e (.tmp dI) (.tmp tV) := by rfl) (dS_ : oS.dst = none := by rfl)
    (oN_ : oN.op = .nilCheck (.tmp tP) := by rfl) (dN_ : oN.dst = some dN := by rfl) (oF_ : oF.op = .fieldAddr tO (.tmp dN) f := by rfl) (dF_ : oF.dst = some dF := by rfl) (oH_ : oH.op = .store t (.tmp dF) (.tmp dA) := by rfl) (dH_ : oH.dst = none := by rfl) (hb : bigOk l.length oA oI oS oN oF oH = true := by kernel_rfl)
    (lA : Nat.blt dA nt = true := by rfl) (lI : Nat.blt dI nt = true := by rfl) (lN : Nat.blt dN nt = true := by rfl) (lF : Nat.blt dF nt = true := by rfl) (nAI : Nat.beq dA dI = false := by rfl) (nAN : Nat.beq dA dN = false := by rfl) (nAF : Nat.beq dA dF = false := by rfl) (nIN : Nat.beq dI dN = false := by rfl) (nIF : Nat.beq dI dF = false := by rfl) (nNF : Nat.beq dN dF = false := by rfl) (nI : apart3 [dA, dI, dN, dF] tI tV tP = true := by rfl)
    (hs : look fr tS = some (.one (.own k rows)) := by rfl) (hk : look σ k = some (.tok e sz) := by rfl) (hx : (look fr tX).bind rowsV = some [Z] := by rfl) (hi : Ty t = some ti := by rfl) (hit : ti.tag = 2 := by rfl) (hie : ti.elem = e := by rfl) (his : ti.size = 1 := by rfl) (he : Ty e = some ie := by rfl) (hsz : ie.size = sz := by rfl) (h1 : sized sz rows = true := by first | rfl | exact sized_E _ | exact sized_S _ | exact sized_P _ | assumption | exact sized_take _ (sized_S _) | exact sized_drop _ (sized_S _) | exact sized_app (by assumption) rfl | exact sized_app (sized_app rfl (sized_S _)) rfl | exact sized_app rfl (sized_S _) | (simp only [sized, List.all_append, List.all_cons, List.all_nil, List.all_map, Bool.and_true, Bool.and_self, encE_len]; rfl) | (simp [sized, encE_len, encS]; done) | simp [sized, encP_len]) (hZ : Z.length = sz := by rfl) (hbd : (rows.length + 1) * ie.bytes ≤ 140737488355328 := by first | decide | (simp only [List.length_map, List.length_append, List.length_take, List.length_drop, List.length_cons, List.length_nil]; omega))
    (hix : look fr tI = some (vI z) := by rfl) (hz : z = (rows.length : Int) := by first | rfl | simp | (simp only [List.length_map]; omega)) (hv : look fr tV = some (.dat cs) := by rfl) (hcs : cs.length = sz := by first | rfl | exact encE_len _ | exact encP_len _ | exact encQ_len _ | (simp only [encE_len]; done) | (simp only [encP_len])) (hp : look fr tP = some (.one (.po k0 0)) := by rfl) (hk0 : look σ k0 = some (.obj ty0 c0) := by rfl) (hkk : Nat.beq k0 k = false := by rfl) (hkA : Nat.beq k0 dA = false := by rfl) (hi0 : Ty tO = some i0 := by rfl) (htag : i0.tag = 1 := by rfl) (hpl : i0.places[f]? = some (off, 1) := by rfl) (hoff : Nat.blt off c0.length = true := by rfl)
    (hr' : rows ++ [cs] = rs := by first | assumption | rfl) (hf : stripF dA fr = fr1 := by first | ((try simp only [stripF_cons, stripF_nil, stripS_cons, stripS_nil, stripV, stripC, stripO, stripA, stripL_nil, stripL_cons, stripL_d, stripL_app, Nat.reduceEqDiff, if_false, if_true, reduceIte, List.contains_nil, List.contains_cons, Nat.reduceBEq, Bool.or_false, Bool.false_eq_true, Bool.or_true]) <;> rfl) | rfl) (hσ : stripS dA ((k, .junk) :: σ) = σ1 := by first | ((try simp only [stripF_cons, stripF_nil, stripS_cons, stripS_nil, stripV, stripC, stripO, stripA, stripL_nil, stripL_cons, stripL_d, stripL_app, Nat.reduceEqDiff, if_false, if_true, reduceIte, List.contains_nil, List.contains_cons, Nat.reduceBEq, Bool.or_false, Bool.false_eq_true, Bool.or_true]) <;> rfl) | rfl) (hc : (stripL dA c0).set off (.own dA rs) = c1 := by first | ((try simp only [stripL_cons, stripL_nil, stripA, stripC, Nat.reduceEqDiff, if_false, if_true, reduceIte, List.set_cons_zero, List.set_cons_succ]) <;> rfl) | rfl) :
    TailOk (cx nt w0 S0) l [oA, oI, oS, oN, oF, oH] fr σ (LQ (cx nt w0 S0) QQ) := by
  subst hz
  exact tail_big (X := cx nt w0 S0) ty_ok hb oA_ dA_ oI_ dI_ oS_ dS_ oN_ dN_ oF_ dF_ oH_ dH_ (Nat.blt_eq ▸ lA) (Nat.blt_eq ▸ lI) (Nat.blt_eq ▸ lN) (Nat.blt_eq ▸ lF) (Nat.ne_of_beq_eq_false nAI) (Nat.ne_of_beq_eq_false nAN) (Nat.ne_of_beq_eq_false nAF) (Nat.ne_of_beq_eq_false nIN) (Nat.ne_of_beq_eq_false nIF) (Nat.ne_of_beq_eq_false nNF) (apart3_at nI)
    hs hk hx hi hit hie his he hsz h1 hZ hbd hix hv hcs hp hk0 (Nat.ne_of_beq_eq_false hkk) (Nat.ne_of_beq_eq_false hkA) hi0 htag hpl (Nat.blt_eq ▸ hoff) (by
      unfold tailFr tailOb
      rw [hr', hf, hσ, hc]; exact h)
end
end Go.Proofs.Ytjhkehloipmjfaa
/- A pattern's machine, in plain Lean: how it is laid, how large it grows. No program in sight. -/
namespace Go.Proofs.Ytjhkehloipmjfaa
open Go.RowKit
structure Mv where
  src : Int
  dst : Int
  elem : Int
deriving DecidableEq
structure Mach where
  elems : List Pt
  moves : List Mv
  states : Int
abbrev Lay := Int → Int → Mach → Mach
def mvM (s t e : Int) (m : Mach) : Mach := ⟨m.elems, m.moves ++ [⟨s, t, e⟩], m.states⟩
def elM (p : Pt) (m : Mach) : Mach := ⟨m.elems ++ [p], m.moves, m.states⟩
def stM (m : Mach) : Mach := ⟨m.elems, m.moves, m.states + 1⟩
/-- one kid of a sequence, to a new state -/
def upM (x : Int × Mach) (k : Lay) : Int × Mach := (x.2.states, k x.1 x.2.states (stM x.2))
def seqM (ks : List Lay) (s t : Int) (m : Mach) : Mach := match ks.getLast? with
  | none => m
  | some k => k ((ks.dropLast.foldl upM (s, m)).1) t (ks.dropLast.foldl upM (s, m)).2
def layM : Pt → Lay := foldP fun p ks s t m =>
  if p.kind = 1 ∨ p.kind = 2 then elM p (mvM s t m.elems.length m)
  else if p.kind = 3 then seqM ks s t m
  else if p.kind = 4 then ks.foldl (fun m k => k s t m) m
  else if p.kind = 5 then match ks with
    | [] => m
    | k :: _ => if p.max = 1 then k s t (mvM s t (-1) m) else mvM m.states t (-1) (k m.states m.states (mvM s m.states (-1) (stM m)))
  else m
def upP (x : Int × Mach) (k : Pt) : Int × Mach := upM x (layM k)
theorem layM_eq (p : Pt) (s t : Int) (m : Mach) : layM p s t m = if p.kind = 1 ∨ p.kind = 2 then elM p (mvM s t m.elems.length m)
  else if p.kind = 3 then seqM (p.kids.map layM) s t m
  else if p.kind = 4 then p.kids.foldl (fun m k => layM k s t m) m
  else if p.kind = 5 then match p.kids.map layM with
    | [] => m
    | k :: _ => if p.max = 1 then k s t (mvM s t (-1) m) else mvM m.states t (-1) (k m.states m.states (mvM s m.states (-1) (stM m)))
  else m := by
  unfold layM; rw [foldP_eq, List.foldl_map]
theorem lay_elem {p : Pt} (h : p.kind = 1 ∨ p.kind = 2) (s t : Int) (m : Mach) : layM p s t m = elM p (mvM s t m.elems.length m) := by rw [layM_eq, if_pos h]
theorem lay_seq {p k : Pt} (h : p.kind = 3) (hk : p.kids[p.kids.length - 1]? = some k) (s t : Int) (m : Mach) : layM p s t m = layM k ((p.kids.take (p.kids.length - 1)).foldl upP (s, m)).1 t ((p.kids.take (p.kids.length - 1)).foldl upP (s, m)).2 := by
  rw [layM_eq, if_neg (by omega), if_pos h]
  have e : (p.kids.map layM).getLast? = some (layM k) := by
    rw [List.getLast?_eq_getElem?, List.length_map, List.getElem?_map, hk]; rfl
  unfold seqM
  rw [e]
  have e2 : (p.kids.map layM).dropLast = (p.kids.take (p.kids.length - 1)).map layM := by rw [List.dropLast_eq_take, List.length_map, List.map_take]
  simp only [e2, List.foldl_map]
  rfl
theorem lay_alt {p : Pt} (h : p.kind = 4) (s t : Int) (m : Mach) : layM p s t m = p.kids.foldl (fun m k => layM k s t m) m := by rw [layM_eq, if_neg (by omega), if_neg (by omega), if_pos h]
theorem lay_opt {p k : Pt} (h : p.kind = 5) (hk : p.kids = [k]) (hm : p.max = 1) (s t : Int) (m : Mach) : layM p s t m = layM k s t (mvM s t (-1) m) := by
  rw [layM_eq, if_neg (by omega), if_neg (by omega), if_neg (by omega), if_pos h, hk, List.map_cons]
  dsimp only
  rw [if_pos hm]
theorem lay_star {p k : Pt} (h : p.kind = 5) (hk : p.kids = [k]) (hm : p.max ≠ 1) (s t : Int) (m : Mach) : layM p s t m = mvM m.states t (-1) (layM k m.states m.states (mvM s m.states (-1) (stM m))) := by
  rw [layM_eq, if_neg (by omega), if_neg (by omega), if_neg (by omega), if_pos h, hk, List.map_cons]
  dsimp only
  rw [if_neg hm]
/-! ### what is normal, as far as a machine needs it -/
def shapeP : Pt → Bool := foldP fun p ks => (if p.kind = 1 ∨ p.kind = 2 then p.kids.isEmpty else if p.kind = 3 ∨ p.kind = 4 then !p.kids.isEmpty
  else p.kind == 5 && p.kids.length == 1 && (p.max == 1 || p.max == -1)) && ks.all id
theorem shapeP_eq (p : Pt) : shapeP p = ((if p.kind = 1 ∨ p.kind = 2 then p.kids.isEmpty else if p.kind = 3 ∨ p.kind = 4 then !p.kids.isEmpty
  else p.kind == 5 && p.kids.length == 1 && (p.max == 1 || p.max == -1)) && p.kids.all shapeP) := by
  unfold shapeP; rw [foldP_eq, List.all_map]; rfl
theorem shape_kids {p : Pt} (h : shapeP p = true) : ∀ k ∈ p.kids, shapeP k = true := by
  rw [shapeP_eq, Bool.and_eq_true, List.all_eq_true] at h; exact h.2
theorem shape_kind {p : Pt} (h : shapeP p = true) : ((p.kind = 1 ∨ p.kind = 2) ∧ p.kids = []) ∨ ((p.kind = 3 ∨ p.kind = 4) ∧ p.kids ≠ []) ∨ (p.kind = 5 ∧ (∃ k, p.kids = [k]) ∧ (p.max = 1 ∨ p.max = -1)) := by
  rw [shapeP_eq, Bool.and_eq_true] at h
  obtain ⟨h, _⟩ := h
  split at h
  · rename_i hk; exact .inl ⟨hk, List.isEmpty_iff.1 h⟩
  · split at h
    · rename_i hk
      refine .inr (.inl ⟨hk, fun e => ?_⟩)
      rw [e] at h; cases h
    · simp only [Bool.and_eq_true, Bool.or_eq_true, beq_iff_eq] at h
      exact .inr (.inr ⟨h.1.1, List.length_eq_one_iff.1 h.1.2, h.2⟩)
theorem shape_group {k : Int} {l : List Pt} (hk : k = 3 ∨ k = 4) (hne : l ≠ []) (h : ∀ x ∈ l, shapeP x = true) : shapeP (groupP k l) = true := by
  rw [shapeP_eq]
  unfold groupP
  dsimp only
  rw [if_neg (by omega), if_pos hk, Bool.and_eq_true, List.all_eq_true]
  exact ⟨by cases l with
    | nil => exact absurd rfl hne
    | cons x l => rfl, h⟩
theorem shape_quant {b : Pt} {m : Int} (hm : m = 1 ∨ m = -1) (h : shapeP b = true) : shapeP (quantP b m) = true := by
  rw [shapeP_eq]
  unfold quantP
  rcases hm with rfl | rfl <;> simp [h]
theorem open_shape {k : Int} (hk : k = 3 ∨ k = 4) {p : Pt} (h : shapeP p = true) : openP k p ≠ [] ∧ ∀ x ∈ openP k p, shapeP x = true := by
  unfold openP
  split
  · rename_i e
    refine ⟨?_, shape_kids h⟩
    rcases shape_kind h with ⟨h1, _⟩ | ⟨_, h2⟩ | ⟨h1, _⟩
    · omega
    · exact h2
    · omega
  · exact ⟨by simp, fun x hx => by obtain rfl := List.mem_singleton.1 hx; exact h⟩
theorem shape_join {k : Int} (hk : k = 3 ∨ k = 4) {l : List Pt} (hne : l ≠ []) (h : ∀ x ∈ l, shapeP x = true) : shapeP (joinP k l) = true := by
  have h1 : l.flatMap (openP k) ≠ [] := by
    cases l with
    | nil => exact absurd rfl hne
    | cons x l =>
      rw [List.flatMap_cons]
      intro e
      exact (open_shape hk (h x List.mem_cons_self)).1 (List.append_eq_nil_iff.1 e).1
  have h2 : ∀ y ∈ l.flatMap (openP k), shapeP y = true := fun y hy => by
    obtain ⟨x, hx, hxy⟩ := List.mem_flatMap.1 hy
    exact (open_shape hk (h x hx)).2 y hxy
  rcases joinP_eq k l with ⟨p, e1, e2⟩ | ⟨_, e2⟩
  · rw [e2]; exact h2 p (by rw [e1]; exact List.mem_cons_self)
  · rw [e2]; exact shape_group hk h1 h2
theorem shape_tail {b : Pt} (h : shapeP b = true) : ∀ n : Nat, shapeP (tailP b n) = true
  | 0 => shape_quant (.inl rfl) h
  | n + 1 => shape_quant (.inl rfl) (shape_join (.inl rfl) (by simp) fun x hx => by
    rcases List.mem_cons.1 hx with rfl | hx
    · exact h
    · obtain rfl := List.mem_singleton.1 hx; exact shape_tail h n)
theorem shape_normal : ∀ p : Pt, rightP p = true → shapeP (normal p) = true := Pt.ind fun p ih h => by
  have hr := right_kids h
  rcases right_kind h with hk | hk | hk | hk | hk
  · rw [normal_elem (.inl hk), shapeP_eq, if_pos (.inl hk), right_elem h (.inl hk)]; rfl
  · rw [normal_elem (.inr hk), shapeP_eq, if_pos (.inr hk), right_elem h (.inr hk)]; rfl
  rotate_left 2
  · obtain ⟨⟨k, hkk, hkr⟩, h1, h2, h3⟩ := right_quant h hk
    rw [normal_quant hk hkk]
    have hf := ih k (by rw [hkk]; exact List.mem_cons_self) hkr
    refine shape_join (.inl rfl) (fun e => ?_) fun x hx => ?_
    · obtain ⟨e1, e2⟩ := List.append_eq_nil_iff.1 e
      rw [List.replicate_eq_nil_iff] at e1
      unfold moreP at e2
      split at e2
      · cases e2
      · split at e2
        · cases e2
        · omega
    · rcases List.mem_append.1 hx with hx | hx
      · rw [(List.mem_replicate.1 hx).2]; exact hf
      · unfold moreP at hx
        split at hx
        · obtain rfl := List.mem_singleton.1 hx; exact shape_quant (.inr rfl) hf
        · split at hx
          · obtain rfl := List.mem_singleton.1 hx; exact shape_tail hf _
          · cases hx
  all_goals
    rw [normal_group (by omega)]
    refine shape_join (by omega) (by simpa using (right_group h (by omega)).1) fun x hx => ?_
    obtain ⟨y, hy, rfl⟩ := List.mem_map.1 hx
    exact ih y hy (hr y hy)
/-! ### how large -/
structure Gr (n : Nat) (m m' : Mach) : Prop where
  el : m'.elems.length ≤ m.elems.length + n
  mv : m'.moves.length ≤ m.moves.length + 2 * n
  st : m.states ≤ m'.states ∧ m'.states ≤ m.states + n
theorem lay_gr : ∀ (p : Pt) (s t : Int) (m : Mach), shapeP p = true → Gr (nodesP p) m (layM p s t m) ∧ (layM p s t m).states + 1 ≤ m.states + nodesP p := Pt.ind fun p ih s t m hs => by
  have hsk := shape_kids hs
  have hnp := nodesP_eq p
  have hup : ∀ (l : List Pt), (∀ k ∈ l, k ∈ p.kids) → ∀ (x : Int × Mach), Gr (l.map nodesP).sum x.2 (l.foldl upP x).2 := by
    intro l
    induction l with
    | nil => intro _ x; exact ⟨Nat.le_refl _, Nat.le_refl _, Int.le_refl _, by simp⟩
    | cons k l ihl =>
      intro hl x
      rw [List.foldl_cons, List.map_cons, List.sum_cons]
      obtain ⟨⟨a1, a2, a3, _⟩, a4⟩ := ih k (hl k List.mem_cons_self) x.1 x.2.states (stM x.2) (hsk k (hl k List.mem_cons_self))
      obtain ⟨b1, b2, b3, b4⟩ := ihl (fun y hy => hl y (List.mem_cons_of_mem _ hy)) (upP x k)
      simp only [upP, upM] at b1 b2 b3 b4
      simp only [stM] at a1 a2 a3 a4
      simp only [upP, upM, stM] at b1 b2 b3 b4 ⊢
      exact ⟨by omega, by omega, by omega, by omega⟩
  have halt : ∀ (l : List Pt), (∀ k ∈ l, k ∈ p.kids) → ∀ (m : Mach), Gr (l.map nodesP).sum m (l.foldl (fun m k => layM k s t m) m) := by
    intro l
    induction l with
    | nil => intro _ x; exact ⟨Nat.le_refl _, Nat.le_refl _, Int.le_refl _, by simp⟩
    | cons k l ihl =>
      intro hl x
      rw [List.foldl_cons, List.map_cons, List.sum_cons]
      obtain ⟨⟨a1, a2, a3, _⟩, a4⟩ := ih k (hl k List.mem_cons_self) s t x (hsk k (hl k List.mem_cons_self))
      obtain ⟨b1, b2, b3, b4⟩ := ihl (fun y hy => hl y (List.mem_cons_of_mem _ hy)) (layM k s t x)
      exact ⟨by omega, by omega, by omega, by omega⟩
  rcases shape_kind hs with ⟨hk, hk0⟩ | ⟨hk, hne⟩ | ⟨hk, ⟨k, hkk⟩, hm⟩
  · rw [lay_elem hk, hnp, hk0]
    simp only [elM, mvM, List.map_nil, List.sum_nil, Nat.add_zero]
    exact ⟨⟨by simp, by simp, by refine ⟨Int.le_refl _, ?_⟩; show m.states ≤ m.states + _; omega⟩, by show m.states + 1 ≤ m.states + _; omega⟩
  · by_cases h3 : p.kind = 3
    · have hlen : 0 < p.kids.length := List.length_pos_iff.2 hne
      obtain ⟨k, hkl⟩ : ∃ k, p.kids[p.kids.length - 1]? = some k := ⟨_, List.getElem?_eq_getElem (by omega)⟩
      rw [lay_seq h3 hkl]
      have h1 := hup (p.kids.take (p.kids.length - 1)) (fun y hy => List.mem_of_mem_take hy) (s, m)
      have hm := List.mem_of_getElem? hkl
      obtain ⟨⟨a1, a2, a3, _⟩, a4⟩ := ih k hm ((p.kids.take (p.kids.length - 1)).foldl upP (s, m)).1 t ((p.kids.take (p.kids.length - 1)).foldl upP (s, m)).2 (hsk k hm)
      obtain ⟨b1, b2, b3, b4⟩ := h1
      have hsum : (p.kids.map nodesP).sum = ((p.kids.take (p.kids.length - 1)).map nodesP).sum + nodesP k := by
        conv => lhs; rw [← List.take_append_drop (p.kids.length - 1) p.kids]
        rw [List.map_append, List.sum_append]
        congr 1
        rw [List.drop_eq_getElem_cons (by omega), (List.getElem?_eq_some_iff.1 hkl).2, List.drop_eq_nil_of_le (by omega)]
        simp
      simp only at b1 b2 b3 b4
      exact ⟨⟨by omega, by omega, by omega, by omega⟩, by omega⟩
    · rw [lay_alt (by omega)]
      obtain ⟨b1, b2, b3, b4⟩ := halt p.kids (fun _ h => h) m
      exact ⟨⟨by omega, by omega, by omega, by omega⟩, by omega⟩
  · have hnk : nodesP p = 1 + nodesP k := by rw [hnp, hkk]; simp
    have hmem : k ∈ p.kids := by rw [hkk]; exact List.mem_cons_self
    rcases hm with hm | hm
    · rw [lay_opt hk hkk hm]
      obtain ⟨⟨a1, a2, a3, _⟩, a4⟩ := ih k hmem s t (mvM s t (-1) m) (hsk k hmem)
      simp only [mvM, List.length_append, List.length_singleton] at a1 a2 a3 a4 ⊢
      exact ⟨⟨by omega, by omega, by omega, by omega⟩, by omega⟩
    · rw [lay_star hk hkk (by omega)]
      obtain ⟨⟨a1, a2, a3, _⟩, a4⟩ := ih k hmem m.states m.states (mvM s m.states (-1) (stM m)) (hsk k hmem)
      simp only [mvM, stM, List.length_append, List.length_singleton] at a1 a2 a3 a4
      refine ⟨⟨?_, ?_, ?_, ?_⟩, ?_⟩ <;> simp only [mvM, stM, List.length_append, List.length_singleton] <;> omega
/-- a machine not yet too large for more -/
def fits (n : Nat) (m : Mach) : Prop := m.elems.length + n ≤ 20000 ∧ m.moves.length + 2 * n ≤ 40000 ∧ 0 ≤ m.states ∧ m.states + n ≤ 20002
theorem fits_le {n n' : Nat} {m : Mach} (h : fits n m) (hn : n' ≤ n) : fits n' m := by unfold fits at *; omega
theorem fits_lay {n : Nat} {p : Pt} {s t : Int} {m : Mach} (hs : shapeP p = true) (h : fits (nodesP p + n) m) : fits n (layM p s t m) := by
  obtain ⟨⟨a1, a2, a3, a4⟩, _⟩ := lay_gr p s t m hs
  unfold fits at *; omega
theorem fits_up {n : Nat} {k : Pt} {x : Int × Mach} (hs : shapeP k = true) (h : fits (nodesP k + n) x.2) : fits n (upP x k).2 := by
  obtain ⟨⟨a1, a2, a3, a4⟩, a5⟩ := lay_gr k x.1 x.2.states (stM x.2) hs
  simp only [upP, upM, stM] at *
  unfold fits at *; omega
theorem fits_ups (l : List Pt) (hs : ∀ k ∈ l, shapeP k = true) : ∀ (n : Nat) (x : Int × Mach), fits ((l.map nodesP).sum + n) x.2 → fits n (l.foldl upP x).2 := by
  induction l with
  | nil => intro n x h; simpa using h
  | cons k l ih =>
    intro n x h
    rw [List.foldl_cons]
    refine ih (fun y hy => hs y (List.mem_cons_of_mem _ hy)) n _ (fits_up (hs k List.mem_cons_self) ?_)
    rw [List.map_cons, List.sum_cons] at h
    rwa [← Nat.add_assoc]
theorem fits_alts {s t : Int} (l : List Pt) (hs : ∀ k ∈ l, shapeP k = true) : ∀ (n : Nat) (m : Mach), fits ((l.map nodesP).sum + n) m → fits n (l.foldl (fun m k => layM k s t m) m) := by
  induction l with
  | nil => intro n x h; simpa using h
  | cons k l ih =>
    intro n x h
    rw [List.foldl_cons]
    refine ih (fun y hy => hs y (List.mem_cons_of_mem _ hy)) n _ (fits_lay (hs k List.mem_cons_self) ?_)
    rw [List.map_cons, List.sum_cons] at h
    rwa [← Nat.add_assoc]
theorem sum_split {f : Pt → Nat} : ∀ {l : List Pt} {i : Nat} {q : Pt}, l[i]? = some q → ((l.take i).map f).sum + f q ≤ (l.map f).sum
  | x :: l, 0, q, h => by
    simp only [List.getElem?_cons_zero, Option.some.injEq] at h
    subst h
    simp
  | x :: l, i + 1, q, h => by
    have := sum_split (f := f) (l := l) (i := i) (q := q) (by simpa using h)
    simp only [List.take_succ_cons, List.map_cons, List.sum_cons]; omega
theorem fits_st {n : Nat} {m : Mach} (h : fits (n + 1) m) : fits n (stM m) := by
  obtain ⟨h1, h2, h3, h4⟩ := h
  exact ⟨by show m.elems.length + n ≤ _; omega, by show m.moves.length + 2 * n ≤ _; omega, by show 0 ≤ m.states + 1; omega, by show m.states + 1 + n ≤ _; omega⟩
theorem fits_mv {n : Nat} {m : Mach} {s t e : Int} (h : fits (n + 1) m) : fits n (mvM s t e m) := by
  obtain ⟨h1, h2, h3, h4⟩ := h
  exact ⟨by show m.elems.length + n ≤ _; omega, by show (m.moves ++ _).length + 2 * n ≤ _; rw [List.length_append, List.length_singleton]; omega, h3, by show m.states + n ≤ _; omega⟩
theorem fits_at {p q : Pt} {s t : Int} {m : Mach} (hs : shapeP p = true) {i : Nat} (hq : p.kids[i]? = some q) (h : fits (nodesP p) m) : fits (nodesP q + 1) ((p.kids.take i).foldl upP (s, m)).2 ∧ fits (nodesP q + 1) ((p.kids.take i).foldl (fun m k => layM k s t m) m) := by
  have h1 := sum_split (f := nodesP) hq
  have h2 := nodesP_eq p
  have hk : ∀ k ∈ p.kids.take i, shapeP k = true := fun k hk => shape_kids hs k (List.mem_of_mem_take hk)
  exact ⟨fits_ups _ hk _ (s, m) (fits_le h (by omega)), fits_alts _ hk _ m (fits_le h (by omega))⟩
def buildM (p : Pt) : Mach := layM p 0 1 ⟨[], [], 2⟩
end Go.Proofs.Ytjhkehloipmjfaa
