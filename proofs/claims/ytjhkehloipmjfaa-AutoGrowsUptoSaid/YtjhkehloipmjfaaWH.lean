/- Patterns as cells. -/
import Derived.Test.YtjhkehloipmjfaaWY
import Derived.Test.YtjhkehloipmjfaaN0
import Derived.Test.YtjhkehloipmjfaaWG
namespace Go.Proofs.Ytjhkehloipmjfaa
open Go.RowKit
mutual
def encP : Pt → List D
  | ⟨k, v, d, l, w, mn, mx, ks⟩ => [.v (.int .i64 k), .v (.string v), .v (.int .i64 d), .v (.int .i64 l.kind), .v (.string l.name), .v (.int .i64 l.val.kind), .v (.int .i64 l.val.n), .v (.float .f64 l.val.f), .v (.string l.val.s), .sl (l.kids.map encE),
      .v (.int .i64 w.kind), .v (.string w.name), .v (.int .i64 w.val.kind), .v (.int .i64 w.val.n), .v (.float .f64 w.val.f), .v (.string w.val.s), .sl (w.kids.map encE), .v (.int .i64 mn), .v (.int .i64 mx), .sl (encPs ks)]
def encPs : List Pt → List (List D)
  | [] => []
  | p :: l => encP p :: encPs l
end
theorem encPs_map (l : List Pt) : encPs l = l.map encP := by
  induction l with
  | nil => rfl
  | cons e l ih => rw [encPs, ih, List.map_cons]
theorem encP_eq (p : Pt) : encP p = [.v (.int .i64 p.kind), .v (.string p.var), .v (.int .i64 p.dir), .v (.int .i64 p.label.kind), .v (.string p.label.name), .v (.int .i64 p.label.val.kind), .v (.int .i64 p.label.val.n), .v (.float .f64 p.label.val.f), .v (.string p.label.val.s), .sl (p.label.kids.map encE),
      .v (.int .i64 p.wher.kind), .v (.string p.wher.name), .v (.int .i64 p.wher.val.kind), .v (.int .i64 p.wher.val.n), .v (.float .f64 p.wher.val.f), .v (.string p.wher.val.s), .sl (p.wher.kids.map encE), .v (.int .i64 p.min), .v (.int .i64 p.max), .sl (p.kids.map encP)] := by
  cases p with | mk k v d l w mn mx ks => rw [encP, encPs_map]
theorem encP_len (p : Pt) : (encP p).length = 20 := by rw [encP_eq]; rfl
theorem sized_P (l : List Pt) : sized 20 (l.map encP) = true := by
  simp [sized, encP_len]
theorem part_label {i : TyI} (p : Pt) (ha : i.agg = true := by rfl) (hs : i.size = 7 := by rfl) : loadA i (encP p) 3 = some (.dat (encE p.label)) := by
  rw [encP_eq, encE_eq]; unfold loadA; rw [if_pos ha, hs]; rfl
theorem part_wher {i : TyI} (p : Pt) (ha : i.agg = true := by rfl) (hs : i.size = 7 := by rfl) : loadA i (encP p) 10 = some (.dat (encE p.wher)) := by
  rw [encP_eq, encE_eq]; unfold loadA; rw [if_pos ha, hs]; rfl
theorem part_label' {i : TyI} (p : Pt) (ha : i.agg = true := by rfl) (hs : i.size = 7 := by rfl) : loadA i ((encP p).drop 3) 0 = some (.dat (encE p.label)) := by
  rw [encP_eq, encE_eq]; unfold loadA; rw [if_pos ha, hs]; rfl
theorem part_wher' {i : TyI} (p : Pt) (ha : i.agg = true := by rfl) (hs : i.size = 7 := by rfl) : loadA i ((encP p).drop 10) 0 = some (.dat (encE p.wher)) := by
  rw [encP_eq, encE_eq]; unfold loadA; rw [if_pos ha, hs]; rfl
theorem dat_eq {a b : List D} (h : a = b) : VV.dat a = VV.dat b := by rw [h]
end Go.Proofs.Ytjhkehloipmjfaa
/- Steps of walks that write variables of the caller's. -/
namespace Go.Proofs.Ytjhkehloipmjfaa
open Go.RowKit
def gHas (σ : Obs) : Obs → Prop
  | [] => True
  | (k, ob) :: l => look σ k = some ob ∧ gHas σ l
theorem gHas_nil (σ : Obs) : gHas σ [] := trivial
theorem gHas_cons {σ l : Obs} {k : Nat} {ob : Ob} (h : look σ k = some ob) (h2 : gHas σ l) : gHas σ ((k, ob) :: l) := ⟨h, h2⟩
theorem gHas.all {σ : Obs} : ∀ {l : Obs}, gHas σ l → ∀ p ∈ l, look σ p.1 = some p.2
  | [], _, p, hp => by cases hp
  | (k, ob) :: l, h, p, hp => by
    rcases List.mem_cons.1 hp with hp | hp
    · subst hp; exact h.1
    · exact gHas.all h.2 p hp
section
variable {w0 : W0} {S0 : Nat → Nat → Prop} {nt : Nat} {fr fr1 : Fr} {σ σ1 σ2 : Obs} {o : Oper} {ops : Array Oper} {rest : List Oper} {Q : Fr → Obs → Prop} {d k j sz : Nat} {e : TypeId} {l0 l1 : Cells} {y : VV} {xx : Operand}
theorem end_g {X : Ctx} {rs : List ResultVar} {x : VV} (h1 : (retV X fr σ rs).bind dataV = some y) (h2 : y = x) (h3 : gHas σ (gO j e sz l1)) : EndG X rs j e sz x l1 .ret fr σ := by
  subst h2; exact ⟨h1, h3.all⟩
theorem uG {f : FuncId} {xs : Array Operand} {ats : Array TypeId} {args cs all : List VV} (hc : CallsG Try.prog f all j e sz l0 y l1) (h : RL (cx nt w0 S0) ops rest ((d, y) :: fr1) σ2 Q) (ho : o.op = .call { callee := .value xx, args := xs, argTypes := ats } := by rfl) (hx : calleeG fr xx = some (f, cs) := by rfl) (hw : wantA ops o fr = some true := by rfl) (hdst : o.dst = some d := by rfl) (hd : Nat.blt d nt = true := by rfl)
    (ha : argsG fr xs.toList = some args := by rfl) (hall : args ++ cs = all := by rfl) (hσ : gHas σ (gO j e sz l0) := by (repeat (first | exact gHas_nil _ | refine gHas_cons (by rfl) ?_))) (hj : inK l0 j = false := by rfl) (hok : (l1.all fun p => okC j l1 p.2.2) = true := by rfl) (hk1 : ∀ k, inK l1 k = inK l0 k := by exact fun _ => rfl) (hf : stripF j fr = fr1 := by first | ((try simp only [stripF_cons, stripF_nil, stripS_cons, stripS_nil, stripV, plainV, List.all_cons, List.all_nil, Bool.and_self, stripC, stripO, stripA, stripL_nil, stripL_cons, stripL_d, stripL_app, Nat.reduceEqDiff, if_false, if_true, reduceIte, List.contains_nil, List.contains_cons, Nat.reduceBEq, Bool.or_false, Bool.false_eq_true, Bool.or_true]) <;> rfl) | rfl) (hs : stripS j σ = σ1 := by first | ((try simp only [stripF_cons, stripF_nil, stripS_cons, stripS_nil, stripV, plainV, List.all_cons, List.all_nil, Bool.and_self, stripC, stripO, stripA, stripL_nil, stripL_cons, stripL_d, stripL_app, Nat.reduceEqDiff, if_false, if_true, reduceIte, List.contains_nil, List.contains_cons, Nat.reduceBEq, Bool.or_false, Bool.false_eq_true, Bool.or_true]) <;> rfl) | rfl) (hg : gO j e sz l1 ++ σ1 = σ2 := by first | ((try simp only [gO, cellsO, List.map_cons, List.map_nil, List.cons_append, List.nil_append]) <;> rfl) | rfl) : RL (cx nt w0 S0) ops (o :: rest) fr σ Q :=
  RL_gcall (X := cx nt w0 S0) hw hdst hd ho hx ha (by rw [hall]; exact hc) hσ.all hk1 hj hok (by rw [hf, hs, hg]; exact h)
theorem uRn (k k' : Nat) (hp : (cx nt w0 S0).pin k' = none) (h : RL (cx nt w0 S0) ops rest fr1 σ1 Q) (hf : renF k k' (stripF k' fr) = fr1 := by first | ((try simp only [renF, renS, renV, renC, renO, rk, List.filter_cons, List.filter_nil, Bool.not_true, Bool.not_false, Nat.reduceBEq, List.map_cons, List.map_nil, stripF_cons, stripF_nil, stripS_cons, stripS_nil, stripV, plainV, List.all_cons, List.all_nil, Bool.and_self, stripC, stripO, stripA, stripL_nil, stripL_cons, stripL_d, stripL_app, Nat.reduceEqDiff, if_false, if_true, reduceIte, List.contains_nil, List.contains_cons, Nat.reduceBEq, Bool.or_false, Bool.false_eq_true, Bool.or_true]) <;> rfl) | rfl) (hs : renS k k' (stripS k' σ) = σ1 := by first | ((try simp only [renF, renS, renV, renC, renO, rk, List.filter_cons, List.filter_nil, Bool.not_true, Bool.not_false, Nat.reduceBEq, List.map_cons, List.map_nil, stripF_cons, stripF_nil, stripS_cons, stripS_nil, stripV, plainV, List.all_cons, List.all_nil, Bool.and_self, stripC, stripO, stripA, stripL_nil, stripL_cons, stripL_d, stripL_app, Nat.reduceEqDiff, if_false, if_true, reduceIte, List.contains_nil, List.contains_cons, Nat.reduceBEq, Bool.or_false, Bool.false_eq_true, Bool.or_true]) <;> rfl) | rfl) : RL (cx nt w0 S0) ops rest fr σ Q :=
  RL_ren k k' hp (by rw [hf, hs]; exact h)
theorem pin_none (h : w0.pin k = none) : (cx nt w0 S0).pin k = none := by
  show (if k < nt then none else w0.pin k) = none
  rw [h]; exact ite_self _
end
end Go.Proofs.Ytjhkehloipmjfaa
