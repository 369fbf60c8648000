/- More steps of a walk. -/
import Derived.Test.YtjhkehloipmjfaaWS
namespace Go.Proofs.Ytjhkehloipmjfaa
open Go.RowKit
section
variable {w0 : W0} {S0 : Nat → Nat → Prop} {nt : Nat} {fr fr1 : Fr} {σ σ1 : Obs} {o : Oper} {ops : Array Oper} {rest : List Oper} {Q : Fr → Obs → Prop} {d k n : Nat} {x : VV} {xx ix p : Operand} {t ty : TypeId} {i e : TyI} {cs ds : List D} {rows news : List (List D)} {ps : Array (Nat × Operand)}
variable {τ0 σB : Obs} {K : List Cr} {C : Cons} {QD : Fr → Obs → Prop} {j : Nat}
/-- a slice's part, to the end, of an encoded list -/
theorem uHd {α : Type} {f : α → List D} {l : List α} {a : Int} {lo' : Operand} (h : RL (cx nt w0 S0) ops rest ((d, vL ((l.drop a.toNat).map f)) :: fr) σ Q) (ho : o.op = .slice t xx (some lo') none none := by rfl) (hdst : o.dst = some d := by rfl) (hd : Nat.blt d nt = true := by rfl) (hw : wantA ops o fr = some true := by rfl)
    (h1 : (ev fr xx).bind rowsV = some (l.map f) := by rfl) (hns : (ev fr xx).bind strV = none := by rfl) (h2 : (ev fr lo').bind intV = some a := by rfl) (h3 : Ty t = some i := by rfl) (h4 : Ty i.elem = some e := by rfl) (htag : i.tag = 2 := by rfl) (h5 : 0 ≤ a := by first | omega | (simp only [List.length_map, List.length_append, List.length_take, List.length_drop, List.length_cons, List.length_nil]; omega)) (h6 : a ≤ (l.map f).length := by first | omega | (simp only [List.length_map, List.length_append, List.length_take, List.length_drop, List.length_cons, List.length_nil]; omega)) (h7 : sized e.size (l.map f) = true := by first | rfl | exact sized_E _ | exact sized_S _ | exact sized_P _ | assumption | exact sized_take _ (sized_S _) | exact sized_drop _ (sized_S _) | exact sized_app (by assumption) rfl | exact sized_app (sized_app rfl (sized_S _)) rfl | exact sized_app rfl (sized_S _) | (simp only [sized, List.all_append, List.all_cons, List.all_nil, List.all_map, Bool.and_true, Bool.and_self, encE_len]; rfl) | (simp [sized, encE_len, encS]; done) | simp [sized, encP_len]) : RL (cx nt w0 S0) ops (o :: rest) fr σ Q :=
  RL_p (X := cx nt w0 S0) ty_ok hw hdst hd (by
    obtain ⟨v, hv1, hv2⟩ := Option.bind_eq_some_iff.1 h1
    rw [hv1, Option.bind_some] at hns
    have h2' : optI fr (some lo') = some (some a) := by simp only [optI, h2, Option.map_some]
    have h3' : (cx nt w0 S0).Ty t = some i := h3
    have h4' : (cx nt w0 S0).Ty i.elem = some e := h4
    unfold aop
    simp only [ho, h3', h4', hv1, h2', show optI fr none = some none from rfl, hns, hv2, Option.getD_some, Option.getD_none, Int.toNat_natCast]
    rw [if_pos ⟨htag, h5, h6, Int.le_refl _, h7⟩, List.take_length, ← List.map_drop]) h
/-- a slice's part, to the end, of an encoded list -/
theorem mHd {α : Type} {f : α → List D} {l : List α} {a : Int} {lo' : Operand} (h : DSeq (cx nt w0 S0) ops τ0 σB QD (j + 1) K C rest ((d, vL ((l.drop a.toNat).map f)) :: fr)) (ho : o.op = .slice t xx (some lo') none none := by rfl) (hdst : o.dst = some d := by rfl) (hd : Nat.blt d nt = true := by rfl) (hw : wantA ops o (restr ops o fr) = some true := by rfl)
    (h1 : (ev (restr ops o fr) xx).bind rowsV = some (l.map f) := by rfl) (hns : (ev (restr ops o fr) xx).bind strV = none := by rfl) (h2 : (ev (restr ops o fr) lo').bind intV = some a := by rfl) (h3 : Ty t = some i := by rfl) (h4 : Ty i.elem = some e := by rfl) (htag : i.tag = 2 := by rfl) (h5 : 0 ≤ a := by first | omega | (simp only [List.length_map, List.length_append, List.length_take, List.length_drop, List.length_cons, List.length_nil]; omega)) (h6 : a ≤ (l.map f).length := by first | omega | (simp only [List.length_map, List.length_append, List.length_take, List.length_drop, List.length_cons, List.length_nil]; omega)) (h7 : sized e.size (l.map f) = true := by first | rfl | exact sized_E _ | exact sized_S _ | exact sized_P _ | assumption | exact sized_take _ (sized_S _) | exact sized_drop _ (sized_S _) | exact sized_app (by assumption) rfl | exact sized_app (sized_app rfl (sized_S _)) rfl | exact sized_app rfl (sized_S _) | (simp only [sized, List.all_append, List.all_cons, List.all_nil, List.all_map, Bool.and_true, Bool.and_self, encE_len]; rfl) | (simp [sized, encE_len, encS]; done) | simp [sized, encP_len]) (hm : MenOk o K (vL ((l.drop a.toNat).map f)) := by (repeat (first | exact men_nil _ _ | refine men_cons (by first | exact Or.inl rfl | exact Or.inr rfl) ?_))) : DSeq (cx nt w0 S0) ops τ0 σB QD j K C (o :: rest) fr :=
  D_p (X := cx nt w0 S0) ty_ok hdst hd hw (by
    obtain ⟨v, hv1, hv2⟩ := Option.bind_eq_some_iff.1 h1
    rw [hv1, Option.bind_some] at hns
    have h2' : optI (restr ops o fr) (some lo') = some (some a) := by simp only [optI, h2, Option.map_some]
    have h3' : (cx nt w0 S0).Ty t = some i := h3
    have h4' : (cx nt w0 S0).Ty i.elem = some e := h4
    unfold aop
    simp only [ho, h3', h4', hv1, h2', show optI (restr ops o fr) none = some none from rfl, hns, hv2, Option.getD_some, Option.getD_none, Int.toNat_natCast]
    rw [if_pos ⟨htag, h5, h6, Int.le_refl _, h7⟩, List.take_length, ← List.map_drop]) hm h
/-- two texts, one behind the other -/
theorem uCat {a b : ByteArray} {t2 : TypeId} {yy : Operand} (h : RL (cx nt w0 S0) ops rest ((d, vS (a ++ b)) :: fr) σ Q) (ho : o.op = .binOp .add t xx yy t2 := by rfl) (hdst : o.dst = some d := by rfl) (hd : Nat.blt d nt = true := by rfl) (hw : wantA ops o fr = some true := by rfl)
    (h1 : ev fr xx = some (vS a) := by rfl) (h2 : ev fr yy = some (vS b) := by rfl) (hs : a.size + b.size ≤ 9223372036854775807 := by omega) : RL (cx nt w0 S0) ops (o :: rest) fr σ Q :=
  RL_p (X := cx nt w0 S0) ty_ok hw hdst hd (by unfold aop; simp only [ho, h1, h2, abin]; rw [if_pos hs]; rfl) h
/-- two texts, one behind the other -/
theorem mCat {a b : ByteArray} {t2 : TypeId} {yy : Operand} (h : DSeq (cx nt w0 S0) ops τ0 σB QD (j + 1) K C rest ((d, vS (a ++ b)) :: fr)) (ho : o.op = .binOp .add t xx yy t2 := by rfl) (hdst : o.dst = some d := by rfl) (hd : Nat.blt d nt = true := by rfl) (hw : wantA ops o (restr ops o fr) = some true := by rfl)
    (h1 : ev (restr ops o fr) xx = some (vS a) := by rfl) (h2 : ev (restr ops o fr) yy = some (vS b) := by rfl) (hs : a.size + b.size ≤ 9223372036854775807 := by omega) (hm : MenOk o K (vS (a ++ b)) := by (repeat (first | exact men_nil _ _ | refine men_cons (by first | exact Or.inl rfl | exact Or.inr rfl) ?_))) : DSeq (cx nt w0 S0) ops τ0 σB QD j K C (o :: rest) fr :=
  D_p (X := cx nt w0 S0) ty_ok hdst hd hw (by unfold aop; simp only [ho, h1, h2, abin]; rw [if_pos hs]; rfl) hm h
theorem uNil {c : Code} {QQ : Exit → Fr → Obs → Prop} (t k : Nat) (el : TypeId) (sz : Nat) {y : Value} (h : W (cx nt w0 S0) c ((t, .one (.own k [])) :: fr1) ((k, .tok el sz) :: σ1) QQ) (hl : look fr t = some (.one (.d (.v y))) := by rfl) (hy : isNil y = true := by rfl) (hf : stripF k fr = fr1 := by first | ((try simp only [stripF_cons, stripF_nil, stripS_cons, stripS_nil, stripV, stripC, stripO, stripA, stripL_nil, stripL_cons, stripL_d, stripL_app, Nat.reduceEqDiff, if_false, if_true, reduceIte, List.contains_nil, List.contains_cons, Nat.reduceBEq, Bool.or_false, Bool.false_eq_true, Bool.or_true]) <;> rfl) | rfl) (hs : stripS k σ = σ1 := by first | ((try simp only [stripF_cons, stripF_nil, stripS_cons, stripS_nil, stripV, stripC, stripO, stripA, stripL_nil, stripL_cons, stripL_d, stripL_app, Nat.reduceEqDiff, if_false, if_true, reduceIte, List.contains_nil, List.contains_cons, Nat.reduceBEq, Bool.or_false, Bool.false_eq_true, Bool.or_true]) <;> rfl) | rfl) : W (cx nt w0 S0) c fr σ QQ :=
  W_nil t k el sz hl hy (hf ▸ hs ▸ h)
end
end Go.Proofs.Ytjhkehloipmjfaa
