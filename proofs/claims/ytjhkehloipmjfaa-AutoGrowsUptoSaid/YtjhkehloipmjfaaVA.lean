/- The steps of MC .. MG with what they ask found by itself. -/
import Derived.Test.YtjhkehloipmjfaaMG
import Derived.Test.YtjhkehloipmjfaaWH
namespace Go.Proofs.Ytjhkehloipmjfaa
open Go.RowKit
def split6 (l : List Oper) : Option (List Oper × Oper × Oper × Oper × Oper × Oper × Oper) := match splitLast l with
  | some (l5, o5) => match splitLast l5 with
    | some (l4, o4) => match splitLast l4 with
      | some (l3, o3) => match splitLast l3 with
        | some (l2, o2) => match splitLast l2 with
          | some (l1, o1) => match splitLast l1 with
            | some (l0, o0) => some (l0, o0, o1, o2, o3, o4, o5)
            | none => none
          | none => none
        | none => none
      | none => none
    | none => none
  | none => none
theorem split6_eq {l1 l : List Oper} {a b c d e f : Oper} (h : split6 l1 = some (l, a, b, c, d, e, f)) : l1 = l ++ [a, b, c, d, e, f] := by
  unfold split6 at h
  split at h
  · rename_i l5 o5 h5
    split at h
    · rename_i l4 o4 h4
      split at h
      · rename_i l3 o3 h3
        split at h
        · rename_i l2 o2 h2
          split at h
          · rename_i l1' o1 h1
            split at h
            · rename_i l0 o0 h0
              injection h with h
              obtain ⟨rfl, rfl, rfl, rfl, rfl, rfl, rfl⟩ : l0 = l ∧ o0 = a ∧ o1 = b ∧ o2 = c ∧ o3 = d ∧ o4 = e ∧ o5 = f := by simpa using h
              rw [splitLast_eq h5, splitLast_eq h4, splitLast_eq h3, splitLast_eq h2, splitLast_eq h1, splitLast_eq h0]
              simp
            · cases h
          · cases h
        · cases h
      · cases h
    · cases h
  · cases h
section
variable {w0 : W0} {S0 : Nat → Nat → Prop} {nt : Nat} {fr fr1 : Fr} {σ σ1 : Obs} {QQ : Exit → Fr → Obs → Prop}
/-- another name for what is one's own -/
theorem wRn (k k' : Nat) {c : Code} (hp : (cx nt w0 S0).pin k' = none) (h : W (cx nt w0 S0) c fr1 σ1 QQ) (hf : renF k k' (stripF k' fr) = fr1 := by first | ((try simp only [renF, renS, renV, renC, renO, rk, List.filter_cons, List.filter_nil, Bool.not_true, Bool.not_false, Nat.reduceBEq, List.map_cons, List.map_nil, stripF_cons, stripF_nil, stripS_cons, stripS_nil, stripV, plainV, List.all_cons, List.all_nil, Bool.and_self, stripC, stripO, stripA, stripL_nil, stripL_cons, stripL_d, stripL_app, Nat.reduceEqDiff, if_false, if_true, reduceIte, List.contains_nil, List.contains_cons, Nat.reduceBEq, Bool.or_false, Bool.false_eq_true, Bool.or_true]) <;> rfl) | rfl) (hs : renS k k' (stripS k' σ) = σ1 := by first | ((try simp only [renF, renS, renV, renC, renO, rk, List.filter_cons, List.filter_nil, Bool.not_true, Bool.not_false, Nat.reduceBEq, List.map_cons, List.map_nil, stripF_cons, stripF_nil, stripS_cons, stripS_nil, stripV, plainV, List.all_cons, List.all_nil, Bool.and_self, stripC, stripO, stripA, stripL_nil, stripL_cons, stripL_d, stripL_app, Nat.reduceEqDiff, if_false, if_true, reduceIte, List.contains_nil, List.contains_cons, Nat.reduceBEq, Bool.or_false, Bool.false_eq_true, Bool.or_true]) <;> rfl) | rfl) : W (cx nt w0 S0) c fr σ QQ :=
  W_ren k k' hp (by rw [hf, hs]; exact h)
/-- a region whose order is open, which puts a struct behind a slice of one's own -/
theorem uBig {id : Nat} {l1 l : List Oper} {oA oI oS oN oF oH : Oper} (h : DSeq (cx nt w0 S0) l1.toArray [] σ (fun fr σ => TailOk (cx nt w0 S0) l [oA, oI, oS, oN, oF, oH] fr σ (LQ (cx nt w0 S0) QQ)) 0 [] [] l fr) (hl : split6 l1 = some (l, oA, oI, oS, oN, oF, oH) := by rfl) (hok : preOk l [oA, oI, oS, oN, oF, oH] = true := by kernel_rfl) : W (cx nt w0 S0) (.region id l1.toArray true) fr σ QQ := by
  have e := split6_eq hl
  subst e
  exact W_pre (X := cx nt w0 S0) mixed_ [] σ (by simp) hok (fun p hp => by cases hp) (fun _ _ h => h) h
def apart3 (L : List Nat) (a b c : Nat) : Bool := L.all fun d => !Nat.beq a d && (!Nat.beq b d && !Nat.beq c d)
theorem apart3_at {L : List Nat} {a b c : Nat} (h : apart3 L a b c = true) : ∀ d ∈ L, a ≠ d ∧ b ≠ d ∧ c ≠ d := fun d hd => by
  unfold apart3 at h
  rw [List.all_eq_true] at h
  have := h d hd
  simp only [Bool.and_eq_true, Bool.not_eq_true'] at this
  exact ⟨Nat.ne_of_beq_eq_false this.1, Nat.ne_of_beq_eq_false this.2.1, Nat.ne_of_beq_eq_false this.2.2⟩
theorem uTail {l : List Oper} {oA oI oS oN oF oH : Oper} {dA dI dN dF tS tX tI tV tP : Nat} {t e tO ty0 : TypeId} {f off k k0 sz : Nat} {ti ie i0 : TyI} {rows rs : List (List D)} {Z cs : List D} {c0 c1 : List C} {z : Int}
    (h : RL (cx nt w0 S0) #[] [] ((dF, .one (.po k0 off)) :: (dN, .one (.po k0 0)) :: (dI, .junk) :: (dA, .one (.own dA rs)) :: fr1) ((k0, .obj ty0 c1) :: (dA, .tok e sz) :: σ1) (QQ .normal))
    (oA_ : oA.op = .call { callee := .builtin .append, args := #[.tmp tS, .tmp tX], argTypes := #[t, t] } := by rfl) (dA_ : oA.dst = some dA := by rfl) (oI_ : oI.op = .indexAddr t (.tmp dA) (.tmp tI) := by rfl) (dI_ : oI.dst = some dI := by rfl) (oS_ : oS.op = .store e (.tmp dI) (.tmp tV) := by rfl) (dS_ : oS.dst = none := by rfl)
    (oN_ : oN.op = .nilCheck (.tmp tP) := by rfl) (dN_ : oN.dst = some dN := by rfl) (oF_ : oF.op = .fieldAddr tO (.tmp dN) f := by rfl) (dF_ : oF.dst = some dF := by rfl) (oH_ : oH.op = .store t (.tmp dF) (.tmp dA) := by rfl) (dH_ : oH.dst = none := by rfl) (hb : bigOk l.length oA oI oS oN oF oH = true := by kernel_rfl)
    (lA : Nat.blt dA nt = true := by rfl) (lI : Nat.blt dI nt = true := by rfl) (lN : Nat.blt dN nt = true := by rfl) (lF : Nat.blt dF nt = true := by rfl) (nAI : Nat.beq dA dI = false := by rfl) (nAN : Nat.beq dA dN = false := by rfl) (nAF : Nat.beq dA dF = false := by rfl) (nIN : Nat.beq dI dN = false := by rfl) (nIF : Nat.beq dI dF = false := by rfl) (nNF : Nat.beq dN dF = false := by rfl) (nI : apart3 [dA, dI, dN, dF] tI tV tP = true := by rfl)
    (hs : look fr tS = some (.one (.own k rows)) := by rfl) (hk : look σ k = some (.tok e sz) := by rfl) (hx : (look fr tX).bind rowsV = some [Z] := by rfl) (hi : Ty t = some ti := by rfl) (hit : ti.tag = 2 := by rfl) (hie : ti.elem = e := by rfl) (his : ti.size = 1 := by rfl) (he : Ty e = some ie := by rfl) (hsz : ie.size = sz := by rfl) (h1 : sized sz rows = true := by first | rfl | exact sized_E _ | exact sized_S _ | exact sized_P _ | assumption | exact sized_take _ (sized_S _) | exact sized_drop _ (sized_S _) | exact sized_app (by assumption) rfl | exact sized_app (sized_app rfl (sized_S _)) rfl | exact sized_app rfl (sized_S _) | (simp only [sized, List.all_append, List.all_cons, List.all_nil, List.all_map, Bool.and_true, Bool.and_self, encE_len]; rfl) | (simp [sized, encE_len, encS]; done) | simp [sized, encP_len]) (hZ : Z.length = sz := by rfl) (hbd : (rows.length + 1) * ie.bytes ≤ 140737488355328 := by first | decide | (simp only [List.length_map, List.length_append, List.length_take, List.length_drop, List.length_cons, List.length_nil]; omega))
    (hix : look fr tI = some (vI z) := by rfl) (hz : z = (rows.length : Int) := by first | rfl | simp | (simp only [List.length_map]; omega)) (hv : look fr tV = some (.dat cs) := by rfl) (hcs : cs.length = sz := by first | rfl | exact encE_len _ | exact encP_len _ | exact encQ_len _ | (simp only [encE_len]; done) | (simp only [encP_len])) (hp : look fr tP = some (.one (.po k0 0)) := by rfl) (hk0 : look σ k0 = some (.obj ty0 c0) := by rfl) (hkk : Nat.beq k0 k = false := by rfl) (hkA : Nat.beq k0 dA = false := by rfl) (hi0 : Ty tO = some i0 := by rfl) (htag : i0.tag = 1 := by rfl) (hpl : i0.places[f]? = some (off, 1) := by rfl) (hoff : Nat.blt off c0.length = true := by rfl)
    (hr' : rows ++ [cs] = rs := by first | assumption | rfl) (hf : stripF dA fr = fr1 := by first | ((try simp only [stripF_cons, stripF_nil, stripS_cons, stripS_nil, stripV, plainV, List.all_cons, List.all_nil, Bool.and_self, stripC, stripO, stripA, stripL_nil, stripL_cons, stripL_d, stripL_app, Nat.reduceEqDiff, if_false, if_true, reduceIte, List.contains_nil, List.contains_cons, Nat.reduceBEq, Bool.or_false, Bool.false_eq_true, Bool.or_true]) <;> rfl) | rfl) (hσ : stripS dA ((k, .junk) :: σ) = σ1 := by first | ((try simp only [stripF_cons, stripF_nil, stripS_cons, stripS_nil, stripV, plainV, List.all_cons, List.all_nil, Bool.and_self, stripC, stripO, stripA, stripL_nil, stripL_cons, stripL_d, stripL_app, Nat.reduceEqDiff, if_false, if_true, reduceIte, List.contains_nil, List.contains_cons, Nat.reduceBEq, Bool.or_false, Bool.false_eq_true, Bool.or_true]) <;> rfl) | rfl) (hc : (stripL dA c0).set off (.own dA rs) = c1 := by first | ((try simp only [stripL_cons, stripL_nil, stripA, stripC, Nat.reduceEqDiff, if_false, if_true, reduceIte, List.set_cons_zero, List.set_cons_succ]) <;> rfl) | rfl) :
    TailOk (cx nt w0 S0) l [oA, oI, oS, oN, oF, oH] fr σ (LQ (cx nt w0 S0) QQ) := by
  subst hz
  exact tail_big (X := cx nt w0 S0) ty_ok hb oA_ dA_ oI_ dI_ oS_ dS_ oN_ dN_ oF_ dF_ oH_ dH_ (Nat.blt_eq ▸ lA) (Nat.blt_eq ▸ lI) (Nat.blt_eq ▸ lN) (Nat.blt_eq ▸ lF) (Nat.ne_of_beq_eq_false nAI) (Nat.ne_of_beq_eq_false nAN) (Nat.ne_of_beq_eq_false nAF) (Nat.ne_of_beq_eq_false nIN) (Nat.ne_of_beq_eq_false nIF) (Nat.ne_of_beq_eq_false nNF) (apart3_at nI)
    hs hk hx hi hit hie his he hsz h1 hZ hbd hix hv hcs hp hk0 (Nat.ne_of_beq_eq_false hkk) (Nat.ne_of_beq_eq_false hkA) hi0 htag hpl (Nat.blt_eq ▸ hoff) (by
      unfold tailFr tailOb
      rw [hr', hf, hσ, hc]; exact h)
end
end Go.Proofs.Ytjhkehloipmjfaa
/- Walks: patterns put together. -/
namespace Go.Proofs.Ytjhkehloipmjfaa
open Go.RowKit
abbrev zPat : List D := [.v (.int .i64 0), .v (.string ⟨#[]⟩), .v (.int .i64 0), .v (.int .i64 0), .v (.string ⟨#[]⟩), .v (.int .i64 0), .v (.int .i64 0), .v (.float .f64 0), .v (.string ⟨#[]⟩), .sl [],
      .v (.int .i64 0), .v (.string ⟨#[]⟩), .v (.int .i64 0), .v (.int .i64 0), .v (.float .f64 0), .v (.string ⟨#[]⟩), .sl [], .v (.int .i64 0), .v (.int .i64 0), .sl []]
theorem opens_next {l : List Pt} {k : Int} {q : Pt} {i : Nat} (hq : l[i]? = some q) : (l.take (i + 1)).flatMap (openP k) = (l.take i).flatMap (openP k) ++ openP k q := by
  rw [List.take_add_one, hq, Option.toList_some, List.flatMap_append, List.flatMap_singleton]
theorem flat_len {α β : Type} {f : α → List β} {l : List α} {k : Nat} {q : α} (hq : l[k]? = some q) : ((l.take k).flatMap f).length + (f q).length ≤ (l.flatMap f).length := by
  have e : l = l.take (k + 1) ++ l.drop (k + 1) := (List.take_append_drop _ _).symm
  rw [List.take_add_one, hq, Option.toList_some] at e
  have : (l.flatMap f).length = ((l.take k ++ [q] ++ l.drop (k + 1)).flatMap f).length := by rw [← e]
  rw [this, List.flatMap_append, List.flatMap_append]
  simp
set_option maxRecDepth 100000 in
theorem refJoin_v (k : Int) (l : List Pt) (hb : (l.flatMap (openP k)).length ≤ 1000000) : CallsV Try.prog 55 [vI k, vL (l.map encP)] (.val (.dat (encP (joinP k l)))) := by
  (refine callsV_of_W (Ty := Ty) ty_ok Try.func55 rfl rfl rfl fun w0 S0 => ?_; simp only [argsF, List.zipIdx_cons, List.zipIdx_nil, List.map_cons, List.map_nil, Nat.zero_add])
  have hlm : (l.map encP).length = l.length := List.length_map _
  refine W_limV (t := 1) rfl rfl fun hlim => ?_
  repeat (first | refine W_seq ?_ | refine W_region ?_ | ((first | refine RL_nil ?_ | refine W_skip ?_ | refine W_exit ?_ | refine W_ret ?_); (first | change W _ _ _ _ _ | change EndQ _ _ _ _ _ _ | change Exists _ | skip)) | (refine isRL ?_; first | refine uMv ?_ | refine uAs ?_ | (refine isBin ?_; first | refine uIb ?_ | refine uCat ?_ | refine uBb true ?_ | refine uBb false ?_ | refine uP ?_) | (refine isLd ?_; first | refine uLp ?_ | refine uLb ?_ | refine uL1 ?_ | refine uL2 ?_ | refine uP ?_) | (refine isCl ?_; first | refine uP ?_ | refine uAk ?_ | refine uA ?_ | refine uA0 ?_ | refine uWl ?_) | (refine isFa ?_; first | refine uP ?_) | (refine isBd ?_; first | refine uBd ?_ | refine uP ?_) | (refine isSt ?_; first | refine uSw ?_ | refine uS ?_ | refine uSc ?_) | refine uX ?_ | refine uBs ?_ | refine uP ?_ | refine uN ?_) | refine W_block ?_ | refine wT fun _ => ?_ | refine wF fun _ => ?_)
  refine uNil 5 100 53 20 ?_
  refine W_for (α := Nat) (fun i => [(0, vI k), (4, .one (.po 4 0)), (5, .one (.own 100 (((l.take i).flatMap (openP k)).map encP))), (1, vL (l.map encP)), (6, vI i)]) (fun _ => [(4, .box 53 zPat), (100, .tok 53 20)]) (fun i => i ≤ l.length) (fun i => l.length - i) 0 (Nat.zero_le _) (by (repeat (first | exact sub_nil _ | refine sub_cons (by rfl) ?_))) (by (repeat (first | exact sub_nil _ | refine sub_cons (by rfl) ?_))) ?_
  intro i hi
  by_cases hlt : i < l.length
  · obtain ⟨q, hq⟩ : ∃ q, l[i]? = some q := ⟨_, List.getElem?_eq_getElem hlt⟩
    have hnx := opens_next (k := k) hq
    have hfl := flat_len (f := openP k) hq
    by_cases hk : q.kind = k
    · have ho : openP k q = q.kids := by unfold openP; rw [if_pos hk]
      rw [ho] at hnx hfl
      have hnx' : ((l.take i).flatMap (openP k)).map encP ++ q.kids.map encP = ((l.take (i + 1)).flatMap (openP k)).map encP := by rw [hnx, List.map_append]
      repeat (first | refine W_seq ?_ | refine W_region ?_ | ((first | refine RL_nil ?_ | refine W_skip ?_ | refine W_exit ?_ | refine W_ret ?_); (first | change W _ _ _ _ _ | change EndQ _ _ _ _ _ _ | change Exists _ | skip)) | (refine isRL ?_; first | refine uMv ?_ | refine uAs ?_ | (refine isBin ?_; first | refine uIb ?_ | refine uCat ?_ | refine uBb true ?_ | refine uBb false ?_ | refine uP ?_) | (refine isLd ?_; first | refine uLp ?_ | refine uLb ?_ | refine uL1 ?_ | refine uL2 ?_ | refine uP ?_) | (refine isCl ?_; first | refine uP ?_ | refine uAk ?_ | refine uA ?_ | refine uA0 ?_ | refine uWl ?_) | (refine isFa ?_; first | refine uP ?_) | (refine isBd ?_; first | refine uBd ?_ | refine uP ?_) | (refine isSt ?_; first | refine uSw ?_ | refine uS ?_ | refine uSc ?_) | refine uX ?_ | refine uBs ?_ | refine uP ?_ | refine uN ?_) | refine W_block ?_ | refine wT fun _ => ?_ | refine wF fun _ => ?_)
      exact ⟨i + 1, by omega, hlt, (by (repeat (first | exact sub_nil _ | refine sub_cons (by rfl) ?_))), (by (repeat (first | exact sub_nil _ | refine sub_cons (by rfl) ?_)))⟩
    · have ho : openP k q = [q] := by unfold openP; rw [if_neg hk]
      rw [ho] at hnx hfl
      have hnx' : ((l.take i).flatMap (openP k)).map encP ++ [encP q] = ((l.take (i + 1)).flatMap (openP k)).map encP := by rw [hnx, List.map_append]; rfl
      rw [List.length_singleton] at hfl
      repeat (first | refine W_seq ?_ | refine W_region ?_ | ((first | refine RL_nil ?_ | refine W_skip ?_ | refine W_exit ?_ | refine W_ret ?_); (first | change W _ _ _ _ _ | change EndQ _ _ _ _ _ _ | change Exists _ | skip)) | (refine isRL ?_; first | refine uMv ?_ | refine uAs ?_ | (refine isBin ?_; first | refine uIb ?_ | refine uCat ?_ | refine uBb true ?_ | refine uBb false ?_ | refine uP ?_) | (refine isLd ?_; first | refine uLp ?_ | refine uLb ?_ | refine uL1 ?_ | refine uL2 ?_ | refine uP ?_) | (refine isCl ?_; first | refine uP ?_ | refine uAk ?_ | refine uA ?_ | refine uA0 ?_ | refine uWl ?_) | (refine isFa ?_; first | refine uP ?_) | (refine isBd ?_; first | refine uBd ?_ | refine uP ?_) | (refine isSt ?_; first | refine uSw ?_ | refine uS ?_ | refine uSc ?_) | refine uX ?_ | refine uBs ?_ | refine uP ?_ | refine uN ?_) | refine W_block ?_ | refine wT fun _ => ?_ | refine wF fun _ => ?_)
      exact ⟨i + 1, by omega, hlt, (by (repeat (first | exact sub_nil _ | refine sub_cons (by rfl) ?_))), (by (repeat (first | exact sub_nil _ | refine sub_cons (by rfl) ?_)))⟩
  · have hil : i = l.length := by omega
    subst hil
    rw [List.take_length]
    rcases joinP_eq k l with ⟨p, h1, h2⟩ | ⟨h1, h2⟩
    · rw [h1]
      repeat (first | refine W_seq ?_ | refine W_region ?_ | ((first | refine RL_nil ?_ | refine W_skip ?_ | refine W_exit ?_ | refine W_ret ?_); (first | change W _ _ _ _ _ | change EndQ _ _ _ _ _ _ | change Exists _ | skip)) | (refine isRL ?_; first | refine uMv ?_ | refine uAs ?_ | (refine isBin ?_; first | refine uIb ?_ | refine uCat ?_ | refine uBb true ?_ | refine uBb false ?_ | refine uP ?_) | (refine isLd ?_; first | refine uLp ?_ | refine uLb ?_ | refine uL1 ?_ | refine uL2 ?_ | refine uP ?_) | (refine isCl ?_; first | refine uP ?_ | refine uAk ?_ | refine uA ?_ | refine uA0 ?_ | refine uWl ?_) | (refine isFa ?_; first | refine uP ?_) | (refine isBd ?_; first | refine uBd ?_ | refine uP ?_) | (refine isSt ?_; first | refine uSw ?_ | refine uS ?_ | refine uSc ?_) | refine uX ?_ | refine uBs ?_ | refine uP ?_ | refine uN ?_) | refine W_block ?_ | refine wT fun _ => ?_ | refine wF fun _ => ?_)
      exact end_b rfl rfl rfl rfl rfl (encP_len _) (by rw [h2])
    · have hne : ¬ ((((l.flatMap (openP k)).map encP).length : Int) = 1) := by rw [List.length_map]; omega
      repeat (first | refine W_seq ?_ | refine W_region ?_ | ((first | refine RL_nil ?_ | refine W_skip ?_ | refine W_exit ?_ | refine W_ret ?_); (first | change W _ _ _ _ _ | change EndQ _ _ _ _ _ _ | change Exists _ | skip)) | (refine isRL ?_; first | refine uMv ?_ | refine uAs ?_ | (refine isBin ?_; first | refine uIb ?_ | refine uCat ?_ | refine uBb true ?_ | refine uBb false ?_ | refine uP ?_) | (refine isLd ?_; first | refine uLp ?_ | refine uLb ?_ | refine uL1 ?_ | refine uL2 ?_ | refine uP ?_) | (refine isCl ?_; first | refine uP ?_ | refine uAk ?_ | refine uA ?_ | refine uA0 ?_ | refine uWl ?_) | (refine isFa ?_; first | refine uP ?_) | (refine isBd ?_; first | refine uBd ?_ | refine uP ?_) | (refine isSt ?_; first | refine uSw ?_ | refine uS ?_ | refine uSc ?_) | refine uX ?_ | refine uBs ?_ | refine uP ?_ | refine uN ?_) | refine W_block ?_ | refine wT fun _ => ?_ | refine wF fun _ => ?_)
      exact end_r (by rfl) (dat_eq (by rw [h2, encP_eq]; rfl))
end Go.Proofs.Ytjhkehloipmjfaa
