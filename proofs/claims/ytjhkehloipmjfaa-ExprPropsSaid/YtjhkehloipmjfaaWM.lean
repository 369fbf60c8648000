/- Plain data of patterns, and what the program computes on them: folds, depth, size, lengths, what is right, made normal. No program in sight. -/
import Derived.Test.YtjhkehloipmjfaaWE
import Derived.Test.YtjhkehloipmjfaaWY
import Derived.Test.YtjhkehloipmjfaaWG
import Derived.Sort.OwnSorted
import Derived.Lib.SliceRun
import Derived.Lib.SlicesCompact
namespace Go.Proofs.Ytjhkehloipmjfaa
open Go.RowKit
def zPt : Pt := ⟨0, ⟨#[]⟩, 0, zE, zE, 0, 0, []⟩
mutual
def foldP {α : Type} (f : Pt → List α → α) : Pt → α
  | ⟨k, v, d, l, w, mn, mx, ks⟩ => f ⟨k, v, d, l, w, mn, mx, ks⟩ (foldPs f ks)
def foldPs {α : Type} (f : Pt → List α → α) : List Pt → List α
  | [] => []
  | p :: l => foldP f p :: foldPs f l
end
mutual
def foldE {α : Type} (f : E → List α → α) : E → α
  | ⟨k, n, v, l⟩ => f ⟨k, n, v, l⟩ (foldEs f l)
def foldEs {α : Type} (f : E → List α → α) : List E → List α
  | [] => []
  | p :: l => foldE f p :: foldEs f l
end
theorem foldEs_map {α : Type} (f : E → List α → α) (l : List E) : foldEs f l = l.map (foldE f) := by
  induction l with
  | nil => rfl
  | cons p l ih => rw [foldEs, ih, List.map_cons]
theorem foldE_eq {α : Type} (f : E → List α → α) (e : E) : foldE f e = f e (e.kids.map (foldE f)) := by
  cases e with | mk k n v l => rw [foldE, foldEs_map]
/-- what holds of a pattern if it holds of its kids -/
theorem Pt.ind {P : Pt → Prop} (h : ∀ p, (∀ k ∈ p.kids, P k) → P p) : ∀ p, P p
  | ⟨k, v, d, l, w, mn, mx, ks⟩ => h _ fun x _ => Pt.ind h x
termination_by p => SizeOf.sizeOf p
decreasing_by
  have := List.sizeOf_lt_of_mem (show x ∈ ks from by assumption)
  simp only [Pt.mk.sizeOf_spec]
  omega
/-! ### expressions -/
/-- how many kids an operator has -/
def eqL (s t : ByteArray) : Bool := s.toList == t.toList
def opKids (s : ByteArray) : Int :=
  if eqL s ⟨#[61]⟩ || (eqL s ⟨#[60, 62]⟩ || (eqL s ⟨#[60]⟩ || (eqL s ⟨#[60, 61]⟩ || (eqL s ⟨#[62]⟩ || (eqL s ⟨#[62, 61]⟩ || (eqL s ⟨#[97, 110, 100]⟩ || (eqL s ⟨#[111, 114]⟩ || (eqL s ⟨#[43]⟩ || (eqL s ⟨#[45]⟩ || (eqL s ⟨#[42]⟩)))))))))) then 2
  else if eqL s ⟨#[110, 111, 116]⟩ || eqL s ⟨#[105, 115, 110, 117, 108, 108]⟩ then 1 else 0
def rightE : E → Bool := foldE fun e ks =>
  if e.kind = 1 then emptyS e.name && e.kids.isEmpty && valueRight e.val
  else if e.kind = 2 then !emptyS e.name && e.kids.isEmpty && zeroV e.val
  else if e.kind = 3 then zeroV e.val && decide (opKids e.name > 0) && decide (opKids e.name = (e.kids.length : Int)) && ks.all id
  else false
theorem rightE_eq (e : E) : rightE e = if e.kind = 1 then emptyS e.name && e.kids.isEmpty && valueRight e.val
  else if e.kind = 2 then !emptyS e.name && e.kids.isEmpty && zeroV e.val
  else if e.kind = 3 then zeroV e.val && decide (opKids e.name > 0) && decide (opKids e.name = (e.kids.length : Int)) && e.kids.all rightE
  else false := by
  unfold rightE
  rw [foldE_eq]
  simp only [List.all_map]
  rfl
def exprRight (e : E) : Bool := decide (depthE 50 e ≤ 50) && rightE e
/-- parts, counted as the program counts: with wrapping sums -/
def countE : E → Int := foldE fun _ ks => ks.foldl (fun n k => IntKind.i64.wrap (n + k)) 1
theorem countE_eq (e : E) : countE e = e.kids.foldl (fun n k => IntKind.i64.wrap (n + countE k)) 1 := by
  unfold countE; rw [foldE_eq, List.foldl_map]
/-! ### made normal -/
def groupP (k : Int) (l : List Pt) : Pt := ⟨k, ⟨#[]⟩, 0, zE, zE, 0, 0, l⟩
def quantP (p : Pt) (most : Int) : Pt := ⟨5, ⟨#[]⟩, 0, zE, zE, 0, most, [p]⟩
def openP (k : Int) (p : Pt) : List Pt := if p.kind = k then p.kids else [p]
def joinP (k : Int) (l : List Pt) : Pt := match l.flatMap (openP k) with
  | [p] => p
  | kids => groupP k kids
/-- at most n + 1 times -/
def tailP (p : Pt) : Nat → Pt
  | 0 => quantP p 1
  | n + 1 => quantP (joinP 3 [p, tailP p n]) 1
def moreP (p : Pt) (b : Pt) : List Pt := if p.max < 0 then [quantP b (-1)] else if p.min < p.max then [tailP b (p.max - p.min - 1).toNat] else []
def normal : Pt → Pt := foldP fun p ks =>
  if p.kind = 3 ∨ p.kind = 4 then joinP p.kind ks
  else if p.kind = 5 then joinP 3 (List.replicate p.min.toNat (ks.headD zPt) ++ moreP p (ks.headD zPt))
  else p
def isElem (p : Pt) : Bool := p.kind == 1 || p.kind == 2
def elems : Pt → List Pt := foldP fun p ks => if isElem p = true then [p] else ks.flatten
end Go.Proofs.Ytjhkehloipmjfaa
/- Plain laws of patterns that are made normal: how many pieces, which elements, how groups go into each other. No program in sight. -/
namespace Go.Proofs.Ytjhkehloipmjfaa
open Go.RowKit
theorem joinP_eq (k : Int) (l : List Pt) : (∃ p, l.flatMap (openP k) = [p] ∧ joinP k l = p) ∨ ((l.flatMap (openP k)).length ≠ 1 ∧ joinP k l = groupP k (l.flatMap (openP k))) := by
  unfold joinP
  cases h : l.flatMap (openP k) with
  | nil => exact .inr ⟨by simp, rfl⟩
  | cons p r => cases r with
    | nil => exact .inl ⟨p, rfl, rfl⟩
    | cons q r => exact .inr ⟨by simp, rfl⟩
/-! ### groups in groups -/
inductive Flat : Pt → Prop
  | mk (p : Pt) (h1 : p.kind = 3 ∨ p.kind = 4 → ∀ c ∈ p.kids, c.kind ≠ p.kind) (h2 : ∀ c ∈ p.kids, Flat c) : Flat p
theorem Flat.open_ {k : Int} (hk : k = 3 ∨ k = 4) {p : Pt} (h : Flat p) : ∀ c ∈ openP k p, c.kind ≠ k ∧ Flat c := by
  cases h with
  | mk p h1 h2 =>
    intro c hc
    unfold openP at hc
    split at hc
    · rename_i e; exact ⟨fun hck => h1 (by omega) c hc (by omega), h2 c hc⟩
    · rename_i e; obtain rfl := List.mem_singleton.1 hc; exact ⟨e, .mk _ h1 h2⟩
theorem Flat.opens {k : Int} (hk : k = 3 ∨ k = 4) {l : List Pt} (h : ∀ x ∈ l, Flat x) : ∀ c ∈ l.flatMap (openP k), c.kind ≠ k ∧ Flat c := fun c hc => by
  obtain ⟨x, hx, hcx⟩ := List.mem_flatMap.1 hc
  exact (h x hx).open_ hk c hcx
theorem Flat.join {k : Int} (hk : k = 3 ∨ k = 4) {l : List Pt} (h : ∀ x ∈ l, Flat x) : Flat (joinP k l) := by
  have ho := Flat.opens hk h
  rcases joinP_eq k l with ⟨p, h1, h2⟩ | ⟨_, h2⟩
  · rw [h2]; exact (ho p (by rw [h1]; exact List.mem_cons_self)).2
  · rw [h2]; exact .mk _ (fun _ c hc => (ho c hc).1) fun c hc => (ho c hc).2
theorem Flat.quant {b : Pt} (m : Int) (h : Flat b) : Flat (quantP b m) := .mk _ (fun hk => by simp [quantP] at hk) fun c hc => by obtain rfl := List.mem_singleton.1 hc; exact h
theorem Flat.tail {b : Pt} (h : Flat b) : ∀ n : Nat, Flat (tailP b n)
  | 0 => h.quant 1
  | n + 1 => Flat.quant 1 (Flat.join (.inl rfl) fun x hx => by
    rcases List.mem_cons.1 hx with rfl | hx
    · exact h
    · obtain rfl := List.mem_singleton.1 hx; exact Flat.tail h n)
theorem Flat.more {p b : Pt} (h : Flat b) : ∀ x ∈ moreP p b, Flat x := fun x hx => by
  unfold moreP at hx
  split at hx
  · obtain rfl := List.mem_singleton.1 hx; exact h.quant _
  · split at hx
    · obtain rfl := List.mem_singleton.1 hx; exact h.tail _
    · cases hx
end Go.Proofs.Ytjhkehloipmjfaa
/- Plain laws of the lengths of patterns. No program in sight. -/
namespace Go.Proofs.Ytjhkehloipmjfaa
open Go.RowKit
end Go.Proofs.Ytjhkehloipmjfaa
/- Patterns as cells. -/
namespace Go.Proofs.Ytjhkehloipmjfaa
open Go.RowKit
mutual
def encP : Pt → List D
  | ⟨k, v, d, l, w, mn, mx, ks⟩ => [.v (.int .i64 k), .v (.string v), .v (.int .i64 d), .v (.int .i64 l.kind), .v (.string l.name), .v (.int .i64 l.val.kind), .v (.int .i64 l.val.n), .v (.float .f64 l.val.f), .v (.string l.val.s), .sl (l.kids.map encE),
      .v (.int .i64 w.kind), .v (.string w.name), .v (.int .i64 w.val.kind), .v (.int .i64 w.val.n), .v (.float .f64 w.val.f), .v (.string w.val.s), .sl (w.kids.map encE), .v (.int .i64 mn), .v (.int .i64 mx), .sl (encPs ks)]
def encPs : List Pt → List (List D)
  | [] => []
  | p :: l => encP p :: encPs l
end
theorem encPs_map (l : List Pt) : encPs l = l.map encP := by
  induction l with
  | nil => rfl
  | cons e l ih => rw [encPs, ih, List.map_cons]
theorem encP_eq (p : Pt) : encP p = [.v (.int .i64 p.kind), .v (.string p.var), .v (.int .i64 p.dir), .v (.int .i64 p.label.kind), .v (.string p.label.name), .v (.int .i64 p.label.val.kind), .v (.int .i64 p.label.val.n), .v (.float .f64 p.label.val.f), .v (.string p.label.val.s), .sl (p.label.kids.map encE),
      .v (.int .i64 p.wher.kind), .v (.string p.wher.name), .v (.int .i64 p.wher.val.kind), .v (.int .i64 p.wher.val.n), .v (.float .f64 p.wher.val.f), .v (.string p.wher.val.s), .sl (p.wher.kids.map encE), .v (.int .i64 p.min), .v (.int .i64 p.max), .sl (p.kids.map encP)] := by
  cases p with | mk k v d l w mn mx ks => rw [encP, encPs_map]
theorem encP_len (p : Pt) : (encP p).length = 20 := by rw [encP_eq]; rfl
theorem sized_P (l : List Pt) : sized 20 (l.map encP) = true := by
  simp [sized, encP_len]
theorem part_label {i : TyI} (p : Pt) (ha : i.agg = true := by rfl) (hs : i.size = 7 := by rfl) : loadA i (encP p) 3 = some (.dat (encE p.label)) := by
  rw [encP_eq, encE_eq]; unfold loadA; rw [if_pos ha, hs]; rfl
theorem part_wher {i : TyI} (p : Pt) (ha : i.agg = true := by rfl) (hs : i.size = 7 := by rfl) : loadA i (encP p) 10 = some (.dat (encE p.wher)) := by
  rw [encP_eq, encE_eq]; unfold loadA; rw [if_pos ha, hs]; rfl
theorem part_label' {i : TyI} (p : Pt) (ha : i.agg = true := by rfl) (hs : i.size = 7 := by rfl) : loadA i ((encP p).drop 3) 0 = some (.dat (encE p.label)) := by
  rw [encP_eq, encE_eq]; unfold loadA; rw [if_pos ha, hs]; rfl
theorem part_wher' {i : TyI} (p : Pt) (ha : i.agg = true := by rfl) (hs : i.size = 7 := by rfl) : loadA i ((encP p).drop 10) 0 = some (.dat (encE p.wher)) := by
  rw [encP_eq, encE_eq]; unfold loadA; rw [if_pos ha, hs]; rfl
end Go.Proofs.Ytjhkehloipmjfaa
/- Steps of walks that write variables of the caller's. -/
namespace Go.Proofs.Ytjhkehloipmjfaa
open Go.RowKit
def gHas (σ : Obs) : Obs → Prop
  | [] => True
  | (k, ob) :: l => look σ k = some ob ∧ gHas σ l
theorem gHas_nil (σ : Obs) : gHas σ [] := trivial
theorem gHas_cons {σ l : Obs} {k : Nat} {ob : Ob} (h : look σ k = some ob) (h2 : gHas σ l) : gHas σ ((k, ob) :: l) := ⟨h, h2⟩
theorem gHas.all {σ : Obs} : ∀ {l : Obs}, gHas σ l → ∀ p ∈ l, look σ p.1 = some p.2
  | [], _, p, hp => by cases hp
  | (k, ob) :: l, h, p, hp => by
    rcases List.mem_cons.1 hp with hp | hp
    · subst hp; exact h.1
    · exact gHas.all h.2 p hp
section
variable {w0 : W0} {S0 : Nat → Nat → Prop} {nt : Nat} {fr fr1 : Fr} {σ σ1 σ2 : Obs} {o : Oper} {ops : Array Oper} {rest : List Oper} {Q : Fr → Obs → Prop} {d k j sz : Nat} {e : TypeId} {l0 l1 : Cells} {y : VV} {xx : Operand}
theorem pin_none (h : w0.pin k = none) : (cx nt w0 S0).pin k = none := by
  show (if k < nt then none else w0.pin k) = none
  rw [h]; exact ite_self _
end
end Go.Proofs.Ytjhkehloipmjfaa
/- A slice of texts of its own, sorted by the library. -/
namespace Go.Proofs.Ytjhkehloipmjfaa
open Go.RowKit Go.Sort
section
variable {X : Ctx} {γ : Nat → Nat} {T : Nat → Value} {S S' : Nat → Nat → Prop} {w w' : World} {fr : Fr} {σ : Obs} {a : Act} {o : Oper} {ops : Array Oper} {rest : List Oper} {Q : Fr → Obs → Prop} {d : Nat}
end
section
variable {X : Ctx} {γ : Nat → Nat} {T : Nat → Value} {S : Nat → Nat → Prop} {w : World} {fr : Fr} {σ : Obs}
end
section
variable {w0 : W0} {S0 : Nat → Nat → Prop} {nt : Nat} {fr fr1 : Fr} {σ σ1 : Obs} {o : Oper} {ops : Array Oper} {rest : List Oper} {Q : Fr → Obs → Prop} {d : Nat}
end
end Go.Proofs.Ytjhkehloipmjfaa
/- Rows of texts of its own: read and written at an index, cleared; a slice that is nil or not. A slice of texts is copied, the copy compacted, and its length asked for. -/
namespace Go.Proofs.Ytjhkehloipmjfaa
open Go.RowKit
section
variable {X : Ctx} {γ : Nat → Nat} {T : Nat → Value} {S : Nat → Nat → Prop} {w w' : World} {fr : Fr} {σ : Obs} {a : Act} {o : Oper} {ops : Array Oper} {rest : List Oper} {Q : Fr → Obs → Prop} {d k lo n c : Nat} {t el : TypeId} {i e : TyI} {xx ix p : Operand} {L : List ByteArray}
/-- an element's place in a window -/
theorem win_ix (hT : Good X) {z : Int} (hr : Rel X γ T S w fr σ a) (ho : o.op = .indexAddr t xx ix) (h1 : ev fr xx = some (.one (.win k lo n c 1))) (h2 : (ev fr ix).bind intV = some z) (h0 : 0 ≤ z) (hlt : z < n) (hi : X.Ty t = some i) (htag : i.tag = 2) (he : X.Ty i.elem = some e) (hsz : e.size = 1) :
    ∃ v, (execOp a.eval o).run X.P w = .ok (.value v) w ∧ RV γ T S w (.one (.pe k (lo + z.toNat) 0 1)) v := by
  obtain ⟨nv, hn1, hn2⟩ := Option.bind_eq_some_iff.1 h2
  obtain ⟨kk, hk⟩ := intV_sound hn2 (ev_sound hr hn1)
  obtain ⟨inf, d0, g1, g2, g3, g4, g5, g6, g7, g8, g9, g10⟩ := (hT t i hi).get
  obtain ⟨inf', d', g1', g2', g3', _⟩ := (hT _ e he).get
  rw [htag] at g10
  cases d0 with
  | slice elt =>
    simp only [elemOfD] at g7
    subst g7
    have hv := ev_sound hr h1
    cases hv with
    | one hv =>
      have hev : a.eval xx = .slice (some ⟨γ k, lo * 1, none⟩) n c := hv
      refine ⟨.pointer (some ⟨γ k, lo * 1 + z.toNat * e.size, none⟩), ?_, .one (by simp only [RC, hsz, Nat.add_mul, Nat.add_zero])⟩
      simp only [execOp, ho, hev, hk, Instr.indexAt, asIntOf, Sem.run_bind, Sem.run_pure, run_underlying g2, Result.andThen_ok]
      rw [if_pos ⟨h0, hlt⟩]
      simp only [Sem.run_bind, run_size g1', Result.andThen_ok, Sem.run_pure, Addr.add_lit, g3']
  | _ => simp [tagOf] at g10
theorem RL_wix (hT : Good X) {z : Int} (hw : wantA ops o fr = some true) (hdst : o.dst = some d) (hd : Nat.blt d X.nt = true) (ho : o.op = .indexAddr t xx ix) (h1 : ev fr xx = some (.one (.win k lo n c 1))) (h2 : (ev fr ix).bind intV = some z) (h0 : 0 ≤ z) (hlt : z < n) (hi : X.Ty t = some i) (htag : i.tag = 2) (he : X.Ty i.elem = some e) (hsz : e.size = 1)
    (h : RL X ops rest ((d, .one (.pe k (lo + z.toNat) 0 1)) :: fr) σ Q) : RL X ops (o :: rest) fr σ Q :=
  ⟨fun γ T S w a K hr hk => wpList_step fun K' hK => by
    rw [if_pos (wantA_sound hr hw)]
    obtain ⟨v, e1, e2⟩ := win_ix hT hr ho h1 h2 h0 hlt hi htag he hsz
    unfold Oper.wp
    rw [e1]
    refine hK _ _ (h.out γ T S w _ K ?_ hk)
    rw [hdst]
    exact hr.put (dst := some d) hd e2⟩
variable {τ0 σB : Obs} {KK : List Cr} {C : Cons} {QD : Fr → Obs → Prop} {j : Nat}
end
end Go.Proofs.Ytjhkehloipmjfaa
namespace Go.Proofs.Ytjhkehloipmjfaa
open Go.RowKit Go.Sort
section
variable {X : Ctx} {γ : Nat → Nat} {T : Nat → Value} {S S' : Nat → Nat → Prop} {w w' : World} {fr : Fr} {σ : Obs} {a : Act} {o : Oper} {ops : Array Oper} {rest : List Oper} {Q : Fr → Obs → Prop}
end
section
variable {w0 : W0} {S0 : Nat → Nat → Prop} {nt : Nat} {fr fr1 : Fr} {σ σ1 : Obs} {o o1 o2 o3 : Oper} {ops : Array Oper} {rest : List Oper} {Q : Fr → Obs → Prop} {d d1 d2 d3 : Nat} {t : TypeId} {i : TyI}
end
end Go.Proofs.Ytjhkehloipmjfaa
