/- The deferred closure of expr.Eval: what is thrown is taken, or nothing is. -/
import Derived.Test.YtjhkehloipmjfaaWY
import Derived.Test.YtjhkehloipmjfaaWN
import Derived.KernelRfl
import Derived.Tactics
import Derived.Tactics2
import Derived.Defers
import Derived.Recover
import Derived.Laws.Pointers
import Derived.Test.YtjhkehloipmjfaaMD
namespace Go.Proofs.Ytjhkehloipmjfaa
open Go.RowKit
set_option maxRecDepth 100000 in
theorem catch_idle (p q : Addr) (w : World) :
    CallsD Try.prog 41 #[.pointer (some p), .pointer (some q)] .returning w fun e u' w' => e = .returned (.tuple #[]) ∧ u' = .returning ∧ w' = w := by
  have hnil : ∀ w : World, (binOp BinOp.neq 20 .nilIface .nilIface).run Try.prog w = .ok (.bool false) w := fun _ => by kernel_rfl
  refine callsD_of_wpS Try.func41 rfl fun c₀ cs hu => ?_
  apply wpS_seq
  apply wpS_region
  simp [wpOpsS, go_sem, recoverD, hu, Try.ntmps41, Exit.thenS]
  apply wpS_seq
  apply wpS_region
  simp [wpOpsS, go_sem, Exit.thenS, hnil]
  refine wpS_cond (t := false) (by simp [Act.eval, Array.replicate]) ?_
  simp only [Bool.false_eq_true, if_false]
  refine wpS_of_wp (wp_skip ?_)
  cases c₀
  simp_all [bodyPostS, results, Try.results41]
def zeroCs : Array Value := #[.int .i64 0, .int .i64 0, .float .f64 0, .string ⟨#[]⟩]
def thrown : Value := .iface 89 (.agg #[])
set_option maxRecDepth 100000 in
theorem catch_p (bv be : Nat) (us : Array Value) (e0 : Value) (w : World) (hv : w.heap[bv]? = some (.cells us 24 (0, 0))) (hus : us.size = 4) (he : w.heap[be]? = some (.cells #[e0] 32 (0, 0))) (hne : bv ≠ be) :
    CallsD Try.prog 41 #[.pointer (some ⟨bv, 0, none⟩), .pointer (some ⟨be, 0, none⟩)] (.panicking [{ v := thrown, recovered := false }]) w fun e u' w' =>
      e = .returned (.tuple #[]) ∧ u' = .panicking [{ v := thrown, recovered := true }] ∧
        w' = ((w.alloc (.cells #[] 89)).setRow bv zeroCs).setRow be #[.int .i64 4] := by
  have hnil : ∀ w : World, (binOp BinOp.neq 20 thrown .nilIface).run Try.prog w = .ok (.bool true) w := fun _ => by kernel_rfl
  have hta : ∀ w : World, (Instr.typeAssert thrown 20 89 true).run Try.prog w = .ok (.tuple #[.agg #[], .bool true]) w := fun _ => by kernel_rfl
  have hz : ∀ w : World, (zeroValue 89).run Try.prog w = .ok (.agg #[]) w := fun _ => by kernel_rfl
  have hsz : ∀ w : World, (sizeOf 89).run Try.prog w = .ok 0 w := fun _ => by kernel_rfl
  refine callsD_of_wpS Try.func41 rfl fun c₀ cs hu => ?_
  apply wpS_seq
  apply wpS_region
  simp [wpOpsS, go_sem, recoverD, hu, Try.ntmps41, Exit.thenS, thrown]
  apply wpS_seq
  apply wpS_region
  unfold thrown at hnil hta
  simp [wpOpsS, go_sem, Exit.thenS, hnil]
  refine wpS_cond (t := true) (by simp [Act.eval, Array.replicate]) ?_
  simp only [if_true]
  apply wpS_seq
  apply wpS_seq
  apply wpS_region
  simp [wpOpsS, go_sem, Exit.thenS, hta, hz, hsz]
  apply wpS_seq
  apply wpS_region
  simp [wpOpsS, go_sem, Exit.thenS]
  refine wpS_cond (t := false) (by simp [Act.eval, Array.replicate]) ?_
  simp only [Bool.false_eq_true, if_false]
  refine wpS_of_wp (wp_skip ?_)
  simp only [Exit.thenS]
  have hb : ∀ w : World, (Instr.build 24 #[]).run Try.prog w = .ok (.agg zeroCs) w := fun _ => by kernel_rfl
  have s1 : ∀ w : World, (sizeOf 24).run Try.prog w = .ok 4 w := fun _ => by kernel_rfl
  have s2 : ∀ w : World, (sizeOf 32).run Try.prog w = .ok 1 w := fun _ => by kernel_rfl
  have lv : bv < w.heap.size := (Array.getElem?_eq_some_iff.1 hv).1
  have le : be < w.heap.size := (Array.getElem?_eq_some_iff.1 he).1
  have hv1 : (w.alloc (.cells #[] 89)).heap[bv]? = some (.cells us 24 (0, 0)) := by rw [← hv]; show (w.heap.push _)[bv]? = _; rw [Array.getElem?_push_lt lv, Array.getElem?_eq_getElem lv]
  have he1 : (w.alloc (.cells #[] 89)).heap[be]? = some (.cells #[e0] 32 (0, 0)) := by rw [← he]; show (w.heap.push _)[be]? = _; rw [Array.getElem?_push_lt le, Array.getElem?_eq_getElem le]
  have st1 : (storeVar 24 ⟨bv, 0, none⟩ (.agg zeroCs)).run Try.prog (w.alloc (.cells #[] 89)) = .ok () ((w.alloc (.cells #[] 89)).setRow bv zeroCs) := by
    have := run_storeCells_at Try.prog bv 0 24 zeroCs.toList 0 us _ hv1 (by rw [hus]; decide) (by decide)
    have e1 : us.toList.take 0 ++ zeroCs.toList ++ us.toList.drop (0 + zeroCs.toList.length) = zeroCs.toList := by
      have : us.toList.length = 4 := by simpa using hus
      rw [List.drop_of_length_le (by rw [this]; decide)]; simp
    simp only [Nat.add_zero] at this
    rw [e1] at this
    simp only [storeVar, Sem.run_bind, s1, Result.andThen_ok]
    exact this
  have he2 : ((w.alloc (.cells #[] 89)).setRow bv zeroCs).heap[be]? = some (.cells #[e0] 32 (0, 0)) := by
    rw [← he1]; exact (onlyAt_row _ bv zeroCs).block be hne.symm
  have st2 : (storeVar 32 ⟨be, 0, none⟩ (.int .i64 4)).run Try.prog ((w.alloc (.cells #[] 89)).setRow bv zeroCs) = .ok () (((w.alloc (.cells #[] 89)).setRow bv zeroCs).setRow be #[.int .i64 4]) := by
    have := run_storeCells_at Try.prog be 0 32 [.int .i64 4] 0 #[e0] _ he2 (by simp) (by decide)
    simp only [Nat.add_zero] at this
    simp only [storeVar, Sem.run_bind, s2, Result.andThen_ok]
    exact this
  refine wpS_of_wp (wp_region_lit ?_)
  generalize hA : (Act.mk _ _) = A
  have h0 : A.tmps.getD 0 undef = .pointer (some ⟨bv, 0, none⟩) := by subst hA; simp
  have h1 : A.tmps.getD 1 undef = .pointer (some ⟨be, 0, none⟩) := by subst hA; simp
  have hsz : A.tmps.size = 17 := by subst hA; simp
  have hdf : A.defers = [] := by subst hA; rfl
  refine wpList_plain rfl fun K1 hK1 => ?_
  unfold Oper.wp
  simp only [execOp, List.map_toArray, List.map_nil, Sem.run_bind, hb, Result.andThen_ok, Sem.run_pure, Oper.upon_value]
  refine hK1 _ _ ?_
  have p0 : (A.put (some 16) (.agg zeroCs)).tmps.getD 0 undef = .pointer (some ⟨bv, 0, none⟩) := by rw [← h0]; simp [Act.put, Array.getD_eq_getD_getElem?]
  have p1 : (A.put (some 16) (.agg zeroCs)).tmps.getD 1 undef = .pointer (some ⟨be, 0, none⟩) := by rw [← h1]; simp [Act.put, Array.getD_eq_getD_getElem?]
  have p16 : (A.put (some 16) (.agg zeroCs)).tmps.getD 16 undef = .agg zeroCs := by simp [Act.put, hsz]
  have q0 : (A.put (some 16) (.agg zeroCs)).eval (.tmp 0) = .pointer (some ⟨bv, 0, none⟩) := p0
  have q1 : (A.put (some 16) (.agg zeroCs)).eval (.tmp 1) = .pointer (some ⟨be, 0, none⟩) := p1
  have q16 : (A.put (some 16) (.agg zeroCs)).eval (.tmp 16) = .agg zeroCs := p16
  refine wpList_plain rfl fun K2 hK2 => ?_
  unfold Oper.wp
  simp only [execOp, q0, q16, Instr.storeAt, Instr.sureAddr, Sem.run_bind, Sem.run_pure, Result.andThen_ok, st1, Oper.upon_skip]
  refine hK2 _ _ ?_
  refine wpList_plain rfl fun K3 hK3 => ?_
  unfold Oper.wp
  have hn : ∀ (B : Act) v, B.put none v = B := fun _ _ => rfl
  have qc : (A.put (some 16) (.agg zeroCs)).eval (.const (.int .i64 4)) = .int .i64 4 := rfl
  simp only [hn, execOp, q1, qc, Instr.storeAt, Instr.sureAddr, Sem.run_bind, Sem.run_pure, Result.andThen_ok, st2, Oper.upon_skip]
  refine hK3 _ _ (wpList_nil ?_)
  refine ⟨hdf, _, rfl, .tuple #[], ?_, rfl, rfl, rfl⟩
  kernel_rfl
end Go.Proofs.Ytjhkehloipmjfaa
/- A struct put behind a slice of one's own by its place, in a region whose order is open: whatever the order, one slice more long. -/
namespace Go.Proofs.Ytjhkehloipmjfaa
open Go.RowKit
/-- what is listed: all up to n, i of the first chain, j of the second -/
def LS (n i j : Nat) (listed : Array Bool) : Prop := listed.size = n + 6 ∧ ∀ x, x < n + 6 → (listed.getD x true = true ↔ (x ≤ n ∨ (n + 1 ≤ x ∧ x < n + 1 + i) ∨ (n + 3 ≤ x ∧ x < n + 3 + j)))
theorem LS.set {n i j i' j' x : Nat} {listed : Array Bool} (h : LS n i j listed) (hx : x < n + 6) (hc : ∀ y, y < n + 6 → ((y ≤ n ∨ (n + 1 ≤ y ∧ y < n + 1 + i') ∨ (n + 3 ≤ y ∧ y < n + 3 + j')) ↔ (y = x ∨ (y ≤ n ∨ (n + 1 ≤ y ∧ y < n + 1 + i) ∨ (n + 3 ≤ y ∧ y < n + 3 + j))))) : LS n i' j' (listed.setIfInBounds x true) := by
  refine ⟨by simpa using h.1, fun y hy => ?_⟩
  rw [hc y hy]
  by_cases e : x = y
  · subst e
    have : x < listed.size := by rw [h.1]; exact hx
    simp [this]
  · rw [getD_set_ne true e, h.2 y hy]
    exact ⟨.inr, fun h => h.resolve_left (Ne.symm e)⟩
theorem LS.f {n i j x : Nat} {listed : Array Bool} (h : LS n i j listed) (hx : x < n + 6) : listed.getD x false = listed.getD x true := by
  have : x < listed.size := by rw [h.1]; exact hx
  simp only [Array.getD, this, dif_pos]
structure Bs (L : List Nat) (a1 a : Act) : Prop where
  tm : ∀ t, t ∉ L → a.tmps.getD t undef = a1.tmps.getD t undef
  sz : a.tmps.size = a1.tmps.size
  df : a.defers = a1.defers
theorem put_other {a : Act} {d t : Nat} (v : Value) (h : t ≠ d) : (a.put (some d) v).tmps.getD t undef = a.tmps.getD t undef := by
  simp [Act.put, Array.getD_eq_getD_getElem?, Ne.symm h]
theorem Bs.put {L : List Nat} {a1 a : Act} (h : Bs L a1 a) {d : Nat} (hd : d ∈ L) (v : Value) : Bs L a1 (a.put (some d) v) :=
  ⟨fun t ht => (put_other v (by rintro rfl; exact ht hd)).trans (h.tm t ht), by simpa [Act.put] using h.sz, h.df⟩
section
variable {P : Program} {ops : Array Oper} {QQ : Exit → Act → World → Prop} {n : Nat} {oI oS oN oF oH : Oper} {dI dN dF : Nat} {pI pN pF : Value} {a1 : Act} {W00 W10 W01 W11 : World}
end
end Go.Proofs.Ytjhkehloipmjfaa
/- A struct put behind a slice of one's own that is a field of a struct of one's own, as the program does it: a zero struct appended, then written at its place, beside the field, in any order. -/
namespace Go.Proofs.Ytjhkehloipmjfaa
open Go.RowKit
section
variable {X : Ctx} {γ : Nat → Nat} {T : Nat → Value} {S : Nat → Nat → Prop} {w : World} {fr : Fr} {σ : Obs} {a : Act} {o : Oper}
end
end Go.Proofs.Ytjhkehloipmjfaa
/- The step for such a region: see MF. -/
namespace Go.Proofs.Ytjhkehloipmjfaa
open Go.RowKit
section
variable {X : Ctx} {fr : Fr} {σ : Obs} {l : List Oper} {oA oI oS oN oF oH : Oper} {dA dI dN dF tS tX tI tV tP : Nat} {t e tO ty0 : TypeId} {f off k k0 sz : Nat} {ti ie i0 : TyI} {rows : List (List D)} {Z cs : List D} {c0 : List C} {QQ : Exit → Fr → Obs → Prop}
end
end Go.Proofs.Ytjhkehloipmjfaa
/- The steps of MC .. MG with what they ask found by itself. -/
namespace Go.Proofs.Ytjhkehloipmjfaa
open Go.RowKit
section
variable {w0 : W0} {S0 : Nat → Nat → Prop} {nt : Nat} {fr fr1 : Fr} {σ σ1 : Obs} {QQ : Exit → Fr → Obs → Prop}
/-- another name for what is one's own -/
theorem wRn (k k' : Nat) {c : Code} (hp : (cx nt w0 S0).pin k' = none) (h : W (cx nt w0 S0) c fr1 σ1 QQ) (hf : renF k k' (stripF k' fr) = fr1 := by first | ((try simp only [renF, renS, renV, renC, renO, rk, List.filter_cons, List.filter_nil, Bool.not_true, Bool.not_false, Nat.reduceBEq, List.map_cons, List.map_nil, stripF_cons, stripF_nil, stripS_cons, stripS_nil, stripV, plainV, List.all_cons, List.all_nil, Bool.and_self, stripC, stripO, stripA, stripL_nil, stripL_cons, stripL_d, stripL_app, Nat.reduceEqDiff, if_false, if_true, reduceIte, List.contains_nil, List.contains_cons, Nat.reduceBEq, Bool.or_false, Bool.false_eq_true, Bool.or_true]) <;> rfl) | rfl) (hs : renS k k' (stripS k' σ) = σ1 := by first | ((try simp only [renF, renS, renV, renC, renO, rk, List.filter_cons, List.filter_nil, Bool.not_true, Bool.not_false, Nat.reduceBEq, List.map_cons, List.map_nil, stripF_cons, stripF_nil, stripS_cons, stripS_nil, stripV, plainV, List.all_cons, List.all_nil, Bool.and_self, stripC, stripO, stripA, stripL_nil, stripL_cons, stripL_d, stripL_app, Nat.reduceEqDiff, if_false, if_true, reduceIte, List.contains_nil, List.contains_cons, Nat.reduceBEq, Bool.or_false, Bool.false_eq_true, Bool.or_true]) <;> rfl) | rfl) : W (cx nt w0 S0) c fr σ QQ :=
  W_ren k k' hp (by rw [hf, hs]; exact h)
end
end Go.Proofs.Ytjhkehloipmjfaa
