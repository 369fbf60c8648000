/- Walks: a pattern's machine is built, by the document; a machine as the document's. -/
import Derived.Test.YtjhkehloipmjfaaVI
import Derived.Test.YtjhkehloipmjfaaVJ
import Derived.Test.YtjhkehloipmjfaaVC
namespace Go.Proofs.Ytjhkehloipmjfaa
open Go.RowKit
/-- a contract with no object of its caller's, that yields data -/
theorem CallsM.toV {P : Program} {f : FuncId} {args : List VV} {cs : List D} (h : CallsM P f args [] (.dat cs) []) : CallsV P f args (.val (.dat cs)) :=
  ⟨h.ent, fun S w vs ha hlt => by
    have hst : St (ictx P w (fun b => b < w.heap.size) S (pinM [] (fun _ => 0))) (fun _ => 0) (fun _ => undef) S w [] :=
      ⟨.refl _ _, hlt, fun _ hb => hb, fun _ _ hs => .inl hs, ⟨fun _ _ hs => hs, .refl⟩, fun k o hk => (by cases hk), fun k k' o o' hk => (by cases hk)⟩
    refine (h.out _ _ _ S w vs hst ⟨ha.1, fun j y v hy hv => ha.2 j y v hy hv _ _⟩).mono fun ex w' he => ?_
    obtain ⟨v, γ', T', S', rfl, hs', hv⟩ := he
    refine ⟨v, S', rfl, ⟨hs'.keep.os, hs'.keep.tape, hs'.keep.output, hs'.keep.size, fun k hk => hs'.keep.block k hk hk⟩, hs'.mon.1, fun b o hb => ?_, fun γ T => ?_⟩
    · rcases hs'.set b o hb with h1 | h1
      · exact .inl h1
      · have h1 : ¬ b < w.heap.size := h1
        exact .inr ⟨by omega, hs'.lt b o hb⟩
    · cases hv with | dat hv => exact .dat hv⟩
end Go.Proofs.Ytjhkehloipmjfaa
/- Walks: patterns that are the same; how many parts, pieces; elements. -/
namespace Go.Proofs.Ytjhkehloipmjfaa
open Go.RowKit
set_option maxRecDepth 100000 in
theorem countP_v : ∀ p : Pt, CallsV Try.prog 25 [.dat (encP p)] (.val (vI (countP p))) := Pt.ind fun p ih => by
  have hL := countE_v p.label
  have hW := countE_v p.wher
  (refine callsV_of_W (Ty := Ty) ty_ok Try.func25 rfl rfl rfl fun w0 S0 => ?_; simp only [argsF, List.zipIdx_cons, List.zipIdx_nil, List.map_cons, List.map_nil, Nat.zero_add])
  have hlm : (p.kids.map encP).length = p.kids.length := List.length_map _
  repeat (first | refine W_seq ?_ | refine W_region ?_ | (refine RL_nil ?_; (first | change W _ _ _ _ _ | change EndQ _ _ _ _ _ _ | change Exists _ | change EndG _ _ _ _ _ _ _ _ _ _ | change EndM _ _ _ _ _ _ _ | skip)) | (refine isRL ?_; first | refine uMv ?_ | refine uAs ?_ | (refine isBin ?_; first | refine uIb ?_ | refine uCat ?_ | refine uBb true ?_ | refine uBb false ?_ | refine uP ?_ | refine uEq true ?_ | refine uEq false ?_) | (refine isLd ?_; first | refine uLp ?_ | refine uLb ?_ | refine uL1 ?_ | refine uL2 ?_ | refine uP ?_) | (refine isCl ?_; first | refine uC (hL) ?_ | refine uC (hW) ?_ | refine uP ?_) | (refine isFa ?_; first | refine uP ?_) | refine uX ?_ | refine uP ?_ | refine uBx ?_ | refine uN ?_) | refine W_block ?_ | refine W_cond true (by rfl) (fun _ => ?_) (fun h => by cases h) | refine W_cond false (by rfl) (fun h => by cases h) (fun _ => ?_) | (refine W_skip ?_; (first | change W _ _ _ _ _ | change EndQ _ _ _ _ _ _ | change Exists _ | change EndG _ _ _ _ _ _ _ _ _ _ | change EndM _ _ _ _ _ _ _ | skip)) | (refine W_exit ?_; (first | change W _ _ _ _ _ | change EndQ _ _ _ _ _ _ | change Exists _ | change EndG _ _ _ _ _ _ _ _ _ _ | change EndM _ _ _ _ _ _ _ | skip)) | (refine W_ret ?_; (first | change W _ _ _ _ _ | change EndQ _ _ _ _ _ _ | change Exists _ | change EndG _ _ _ _ _ _ _ _ _ _ | change EndM _ _ _ _ _ _ _ | skip)) | refine uAnyL ?_ | refine uAny ?_ | (refine mN ?_; (first | change W _ _ _ _ _ | change EndQ _ _ _ _ _ _ | change Exists _ | change EndG _ _ _ _ _ _ _ _ _ _ | change EndM _ _ _ _ _ _ _ | skip)) | (refine isD ?_; first | refine mMv ?_ | refine mAs ?_ | (refine imBin ?_; first | refine mIb ?_ | refine mCat ?_ | refine mBb true ?_ | refine mBb false ?_ | refine mP ?_ | refine mEq true ?_ | refine mEq false ?_) | (refine imLd ?_; first | refine mLp ?_ | refine mLb ?_ | refine mL1 ?_ | refine mL2 ?_ | refine mP ?_) | (refine imCl ?_; first | refine mC (hL) ?_ | refine mC (hW) ?_ | refine mP ?_) | (refine imFa ?_; first | refine mP ?_) | refine mX ?_ | refine mP ?_ | refine mAl ?_))
  refine W_for (α := Nat) (fun k => [(1, .one (.po 1 0)), (3, vI ((p.kids.take k).foldl (fun n q => IntKind.i64.wrap (n + countP q)) (IntKind.i64.wrap (IntKind.i64.wrap (1 + countE p.label) + countE p.wher)))), (4, vI k)]) (fun _ => [(1, .box 53 (encP p))]) (fun k => k ≤ p.kids.length) (fun k => p.kids.length - k) 0 (Nat.zero_le _) (by (repeat (first | exact sub_nil _ | refine sub_cons (by rfl) ?_))) (by (repeat (first | exact sub_nil _ | refine sub_cons (by rfl) ?_))) ?_
  intro k hk
  refine W_limB (k := 1) (j := 19) (rows := p.kids.map encP) rfl (by rw [encP_eq]; rfl) fun hlim => ?_
  by_cases hlt : k < p.kids.length
  · obtain ⟨q, hq⟩ : ∃ q, p.kids[k]? = some q := ⟨_, List.getElem?_eq_getElem hlt⟩
    have hQ := ih q (List.mem_of_getElem? hq)
    have hnx := foldl_next (g := fun (n : Int) q => IntKind.i64.wrap (n + countP q)) (b := IntKind.i64.wrap (IntKind.i64.wrap (1 + countE p.label) + countE p.wher)) hq
    repeat (first | refine W_seq ?_ | refine W_region ?_ | (refine RL_nil ?_; (first | change W _ _ _ _ _ | change EndQ _ _ _ _ _ _ | change Exists _ | change EndG _ _ _ _ _ _ _ _ _ _ | change EndM _ _ _ _ _ _ _ | skip)) | (refine isRL ?_; first | refine uMv ?_ | refine uAs ?_ | (refine isBin ?_; first | refine uIb ?_ | refine uCat ?_ | refine uBb true ?_ | refine uBb false ?_ | refine uP ?_ | refine uEq true ?_ | refine uEq false ?_) | (refine isLd ?_; first | refine uLp ?_ | refine uLb ?_ | refine uL1 ?_ | refine uL2 ?_ | refine uP ?_) | (refine isCl ?_; first | refine uC (hQ) ?_ | refine uP ?_) | (refine isFa ?_; first | refine uP ?_) | refine uX ?_ | refine uP ?_ | refine uBx ?_ | refine uN ?_) | refine W_block ?_ | refine W_cond true (by rfl) (fun _ => ?_) (fun h => by cases h) | refine W_cond false (by rfl) (fun h => by cases h) (fun _ => ?_) | (refine W_skip ?_; (first | change W _ _ _ _ _ | change EndQ _ _ _ _ _ _ | change Exists _ | change EndG _ _ _ _ _ _ _ _ _ _ | change EndM _ _ _ _ _ _ _ | skip)) | (refine W_exit ?_; (first | change W _ _ _ _ _ | change EndQ _ _ _ _ _ _ | change Exists _ | change EndG _ _ _ _ _ _ _ _ _ _ | change EndM _ _ _ _ _ _ _ | skip)) | (refine W_ret ?_; (first | change W _ _ _ _ _ | change EndQ _ _ _ _ _ _ | change Exists _ | change EndG _ _ _ _ _ _ _ _ _ _ | change EndM _ _ _ _ _ _ _ | skip)) | refine uAnyL ?_ | refine uAny ?_ | (refine mN ?_; (first | change W _ _ _ _ _ | change EndQ _ _ _ _ _ _ | change Exists _ | change EndG _ _ _ _ _ _ _ _ _ _ | change EndM _ _ _ _ _ _ _ | skip)) | (refine isD ?_; first | refine mMv ?_ | refine mAs ?_ | (refine imBin ?_; first | refine mIb ?_ | refine mCat ?_ | refine mBb true ?_ | refine mBb false ?_ | refine mP ?_ | refine mEq true ?_ | refine mEq false ?_) | (refine imLd ?_; first | refine mLp ?_ | refine mLb ?_ | refine mL1 ?_ | refine mL2 ?_ | refine mP ?_) | (refine imCl ?_; first | refine mC (hQ) ?_ | refine mP ?_) | (refine imFa ?_; first | refine mP ?_) | refine mX ?_ | refine mP ?_ | refine mAl ?_))
    rw [← hnx]
    exact ⟨k + 1, by omega, hlt, (by (repeat (first | exact sub_nil _ | refine sub_cons (by rfl) ?_))), (by (repeat (first | exact sub_nil _ | refine sub_cons (by rfl) ?_)))⟩
  · have hkl : k = p.kids.length := by omega
    subst hkl
    rw [List.take_length]
    repeat (first | refine W_seq ?_ | refine W_region ?_ | (refine RL_nil ?_; (first | change W _ _ _ _ _ | change EndQ _ _ _ _ _ _ | change Exists _ | change EndG _ _ _ _ _ _ _ _ _ _ | change EndM _ _ _ _ _ _ _ | skip)) | (refine isRL ?_; first | refine uMv ?_ | refine uAs ?_ | (refine isBin ?_; first | refine uIb ?_ | refine uCat ?_ | refine uBb true ?_ | refine uBb false ?_ | refine uP ?_ | refine uEq true ?_ | refine uEq false ?_) | (refine isLd ?_; first | refine uLp ?_ | refine uLb ?_ | refine uL1 ?_ | refine uL2 ?_ | refine uP ?_) | (refine isCl ?_; first | refine uP ?_) | (refine isFa ?_; first | refine uP ?_) | refine uX ?_ | refine uP ?_ | refine uBx ?_ | refine uN ?_) | refine W_block ?_ | refine W_cond true (by rfl) (fun _ => ?_) (fun h => by cases h) | refine W_cond false (by rfl) (fun h => by cases h) (fun _ => ?_) | (refine W_skip ?_; (first | change W _ _ _ _ _ | change EndQ _ _ _ _ _ _ | change Exists _ | change EndG _ _ _ _ _ _ _ _ _ _ | change EndM _ _ _ _ _ _ _ | skip)) | (refine W_exit ?_; (first | change W _ _ _ _ _ | change EndQ _ _ _ _ _ _ | change Exists _ | change EndG _ _ _ _ _ _ _ _ _ _ | change EndM _ _ _ _ _ _ _ | skip)) | (refine W_ret ?_; (first | change W _ _ _ _ _ | change EndQ _ _ _ _ _ _ | change Exists _ | change EndG _ _ _ _ _ _ _ _ _ _ | change EndM _ _ _ _ _ _ _ | skip)) | refine uAnyL ?_ | refine uAny ?_ | (refine mN ?_; (first | change W _ _ _ _ _ | change EndQ _ _ _ _ _ _ | change Exists _ | change EndG _ _ _ _ _ _ _ _ _ _ | change EndM _ _ _ _ _ _ _ | skip)) | (refine isD ?_; first | refine mMv ?_ | refine mAs ?_ | (refine imBin ?_; first | refine mIb ?_ | refine mCat ?_ | refine mBb true ?_ | refine mBb false ?_ | refine mP ?_ | refine mEq true ?_ | refine mEq false ?_) | (refine imLd ?_; first | refine mLp ?_ | refine mLb ?_ | refine mL1 ?_ | refine mL2 ?_ | refine mP ?_) | (refine imCl ?_; first | refine mP ?_) | (refine imFa ?_; first | refine mP ?_) | refine mX ?_ | refine mP ?_ | refine mAl ?_))
    exact end_r (by rfl) (vI_eq (countP_eq p).symm)
end Go.Proofs.Ytjhkehloipmjfaa
/- Walks: two machines that are the same. -/
namespace Go.Proofs.Ytjhkehloipmjfaa
open Go.RowKit
section
variable {X : Ctx} {fr : Fr} {σ : Obs} {o : Oper} {ops : Array Oper} {rest : List Oper} {d : Nat} {xx yy : Operand} {γ : Nat → Nat} {T : Nat → Value} {S : Nat → Nat → Prop} {w : World} {a : Act}
variable {τ0 σB : Obs} {K : List Cr} {C0 : Cons} {QD : Fr → Obs → Prop} {j : Nat}
end
section
variable {w0 : W0} {S0 : Nat → Nat → Prop} {nt : Nat} {fr : Fr} {σ τ0 σB : Obs} {o : Oper} {ops : Array Oper} {rest : List Oper} {d : Nat} {xx yy : Operand} {QD : Fr → Obs → Prop} {K : List Cr} {C0 : Cons} {j : Nat}
end
end Go.Proofs.Ytjhkehloipmjfaa
