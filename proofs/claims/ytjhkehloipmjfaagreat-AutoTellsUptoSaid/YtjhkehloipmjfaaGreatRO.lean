/- Walks: truths; who throws what is wrong. -/
import Derived.Test.YtjhkehloipmjfaaGreatMC
import Derived.Test.YtjhkehloipmjfaaGreatVG
import Derived.Test.YtjhkehloipmjfaaGreatRB
import Derived.Laws.FloatArith
import Derived.Test.YtjhkehloipmjfaaGreatRA
import Derived.Test.YtjhkehloipmjfaaGreatA1
import Derived.MapKept
import Derived.WalkKit
import Derived.Test.YtjhkehloipmjfaaGreatMF
import Derived.Lib.Mul64
import Derived.Laws.Bits64b
set_option maxRecDepth 100000
set_option maxHeartbeats 16000000
namespace Go.Proofs.YtjhkehloipmjfaaGreat
open Go.RowKit
def encT (t : Int) : List D := [.v (.int .i64 t)]
def zeroVal : Val := ⟨0, 0, 0, ⟨#[]⟩⟩
end Go.Proofs.YtjhkehloipmjfaaGreat
namespace Go.Proofs.YtjhkehloipmjfaaGreat
open Go.RowKit
abbrev OneV : VV → Obs → Prop := fun y σ1 => ∃ i : Val, y = .dat (encV i) ∧ σ1 = [] ∧ True
abbrev ValI : VV → Obs → Prop := fun y σ1 => ∃ i : Val × Int, y = .tup [.dat (encV i.1), vI i.2] ∧ σ1 = [] ∧ True
abbrev Bool3 : VV → Obs → Prop := fun y σ1 => ∃ i : Bool × Bool × Bool, y = .tup [vB i.1, vB i.2.1, vB i.2.2] ∧ σ1 = [] ∧ True
theorem zg5 : CallsN Tryz.prog 174 [] [] OneV := by
  skip
  refine zam (Ty := Ty) zag Tryz.func174 rfl rfl rfl (by rfl) fun w0 S0 hp => ?_
  simp only [argsF, List.zipIdx_nil, List.map_nil]
  repeat' (first | refine zac ?_ | refine zaa ?_ | ((first | refine zab ?_ | refine zae ?_); (first | change W _ _ _ _ _ | change Exists _ )) | (refine isRL ?_; first | (refine isBd ?_; first | refine uBd ?_ ) | (refine isSt ?_; first | refine uSw ?_ ) | refine uN ?_))
  all_goals exact zaw (by rfl) rfl ghasA ⟨⟨_, _, _, _⟩, rfl, rfl, trivial⟩
theorem zcP (v : Val) : CallsN Tryz.prog 175 [.dat (encV v)] [] OneB := by
  (refine zam (Ty := Ty) zag Tryz.func175 rfl rfl rfl (by rfl) fun w0 S0 hp => ?_; simp only [argsF, List.zipIdx_cons, List.zipIdx_nil, List.map_cons, List.map_nil, Nat.zero_add])
  repeat' (first | refine zac ?_ | refine zaa ?_ | ((first | refine zab ?_ | refine zae ?_); (first | change W _ _ _ _ _ | change EndN _ _ _ _ _ _ )) | (refine isRL ?_; first | refine uMv ?_ | refine uAs ?_ | refine uO ?_ | (refine isBin ?_; first | refine uP ?_) | (refine isLd ?_; first | refine uL1 ?_ ) | (refine isFa ?_; first | refine uP ?_) | refine uP ?_ | refine uBx ?_ | ((first | refine uGsD ?_ ?_ ) <;> intro hb)))
  all_goals exact zaw (by rfl) rfl ghasA ⟨_, rfl, rfl, trivial⟩
theorem ziQ (b : Bool) : CallsN Tryz.prog 180 [vB b] [] OneV := by
  (refine zam (Ty := Ty) zag Tryz.func180 rfl rfl rfl (by rfl) fun w0 S0 hp => ?_; simp only [argsF, List.zipIdx_cons, List.zipIdx_nil, List.map_cons, List.map_nil, Nat.zero_add])
  repeat' (first | refine zac ?_ | refine zaa ?_ | ((first | refine zab ?_ | refine zaf ?_ | refine zae ?_); (first | change W _ _ _ _ _ | change EndN _ _ _ _ _ _ | change Exists _ )) | (refine isRL ?_; first | refine uMv ?_ | (refine isBd ?_; first | refine uBd ?_ ) | (refine isSt ?_; first | refine uSw ?_ ) | refine uN ?_) | ((first | refine wCs ?_ ?_) <;> intro hb))
  all_goals exact zaw (by rfl) rfl ghasA ⟨⟨_, _, _, _⟩, rfl, rfl, trivial⟩
theorem zlV (a b : Int) : CallsN Tryz.prog 177 [vI a, vI b] [] IntB := by
  (refine zam (Ty := Ty) zag Tryz.func177 rfl rfl rfl (by rfl) fun w0 S0 hp => ?_; simp only [argsF, List.zipIdx_cons, List.zipIdx_nil, List.map_cons, List.map_nil, Nat.zero_add])
  repeat' (first | refine zac ?_ | refine zaa ?_ | ((first | refine zab ?_ | refine zaf ?_ | refine zae ?_); (first | change W _ _ _ _ _ | change EndN _ _ _ _ _ _ | change Exists _ )) | (refine isRL ?_; first | refine uMv ?_ | refine uAs ?_ | refine uO ?_ | (refine isBin ?_; first | refine uBb false ?_ | refine uP ?_) | refine uP ?_ | ((first | refine uGsD ?_ ?_ ) <;> intro hb)) | refine wT fun _ => ?_ | refine wF fun _ => ?_ | ((first | refine wCsD ?_ ?_ ) <;> intro hb))
  all_goals exact zaw (by rfl) rfl ghasA ⟨(_, _), rfl, rfl, trivial⟩
theorem zjs (a b : Int) : CallsN Tryz.prog 176 [vI a, vI b] [] IntB := by
  (refine zam (Ty := Ty) zag Tryz.func176 rfl rfl rfl (by rfl) fun w0 S0 hp => ?_; simp only [argsF, List.zipIdx_cons, List.zipIdx_nil, List.map_cons, List.map_nil, Nat.zero_add])
  repeat' (first | refine zac ?_ | refine zaa ?_ | ((first | refine zab ?_ | refine zaf ?_ | refine zae ?_ ); (first | change W _ _ _ _ _ | change EndN _ _ _ _ _ _ | change Exists _ )) | (refine isRL ?_; first | refine uMv ?_ | refine uAs ?_ | refine uO ?_ | (refine isBin ?_; first | refine uP ?_) | refine uP ?_ | ((first | refine uGsD ?_ ?_ ) <;> intro hb)) | refine wT fun _ => ?_ | refine uAny ?_ | (refine isD ?_; first | refine mQuo ?_ | refine mMv ?_ | refine mAs ?_ | (refine imBin ?_; first | refine mP ?_) ) | ((first | refine wCsD ?_ ?_ ) <;> intro hb))
  all_goals exact zaw (by rfl) rfl ghasA ⟨(_, _), rfl, rfl, trivial⟩
theorem zj3 (a b : Val) : CallsN Tryz.prog 179 [.dat (encV a), .dat (encV b)] [] Bool3 := by
  have h1 := zgh a.n b.f
  have h2 := zgh b.n a.f
  have h3 := zef a.f
  have h4 := zef b.f
  have h5 := zlv a.f b.f
  have h6 := zcZ a.f
  have h7 := zcZ b.f
  (refine zam (Ty := Ty) zag Tryz.func179 rfl rfl rfl (by rfl) fun w0 S0 hp => ?_; simp only [argsF, List.zipIdx_cons, List.zipIdx_nil, List.map_cons, List.map_nil, Nat.zero_add])
  repeat' (first | refine zac ?_ | refine zaa ?_ | ((first | refine zab ?_ | refine zaf ?_ | refine zae ?_ ); (first | change W _ _ _ _ _ | change EndN _ _ _ _ _ _ | change Exists _ )) | (refine isRL ?_; first | refine uNx h1 (fun i _ => ?_) | refine uNx h2 (fun i _ => ?_) | refine uNx h5 (fun i _ => ?_) | refine uShl (fun z => ?_) | refine uMv ?_ | refine uAs ?_ | refine uO ?_ | (refine isBin ?_; first | refine uBb true ?_ | refine uBb false ?_ | refine uP ?_) | (refine isLd ?_; first | refine uL1 ?_ ) | (refine isCl ?_; first | refine uC (h3) ?_ | refine uC (h4) ?_ | refine uC (h6) ?_ | refine uC (h7) ?_ ) | (refine isFa ?_; first | refine uP ?_) | refine uBu true ?_ | refine uP ?_ | refine uBx ?_ | ((first | refine uGsD ?_ ?_ | refine uGsNB ?_ ?_ ) <;> intro hb)) | refine wT fun _ => ?_ | refine wF fun _ => ?_ | refine uAny ?_ | (refine isD ?_; first | refine mAs ?_ | (refine imBin ?_; first | refine mP ?_) | (refine imLd ?_; first | refine mL1 ?_ ) | (refine imFa ?_; first | refine mP ?_) ) | ((first | refine wCsD ?_ ?_ ) <;> intro hb))
  all_goals first | exact zaw (by rfl) rfl ghasA ⟨(_, _, _), rfl, rfl, trivial⟩ 
theorem zks (op : ByteArray) (a b : Val) : CallsN Tryz.prog 150 [vS op, .dat (encV a), .dat (encV b)] [] ValI := by
  have h1 := zcF a
  have h2 := zcF b
  have h3 := zg5
  have h4 := zcP a
  have h5 := zcP b
  have h6 := zj3 a b
  have h7 := ziQ
  (refine zam (Ty := Ty) zag Tryz.func150 rfl rfl rfl (by rfl) fun w0 S0 hp => ?_; simp only [argsF, List.zipIdx_cons, List.zipIdx_nil, List.map_cons, List.map_nil, Nat.zero_add])
  repeat' (first | refine zmN 3 (fun b' : Bool => [(0, vS op), (4, .one (.po 4 0)), (5, .one (.po 5 0)), (6, .one (.po 6 0)), (8, vB (right02 a)), (9, vB (right02 b)), (10, vB b')]) (fun _ => [(4, .box 28 (encV a)), (5, .box 28 (encV b)), (6, .box 28 (encV zeroVal))]) ?_ (fun b' => ?_) | refine zac ?_ | refine zaa ?_ | ((first | refine zab ?_ | refine zaf ?_ | refine zae ?_); (first | change W _ _ _ _ _ | change EndN _ _ _ _ _ _ | change Exists _ )) | (refine isRL ?_; first | refine uNx h3 (fun i _ => ?_) | refine uNx h4 (fun i _ => ?_) | refine uNx h5 (fun i _ => ?_) | refine uNx h6 (fun i _ => ?_) | refine uNx (h7 _) (fun i _ => ?_) | refine uMv ?_ | refine uAs ?_ | refine uO ?_ | (refine isBin ?_; first | refine uP ?_) | (refine isLd ?_; first | refine uLb ?_ | refine uL1 ?_ ) | (refine isCl ?_; first | refine uC (h1) ?_ | refine uC (h2) ?_ ) | (refine isFa ?_; first | refine uP ?_) | (refine isSt ?_; first | refine uSw ?_ ) | refine uBu true ?_ | refine uP ?_ | refine uBx ?_ | refine uN ?_ | ((first | refine uGsD ?_ ?_ | refine uGsN ?_ ?_ | refine uGsNB ?_ ?_ | refine uGs ?_ ?_) <;> intro hb)) | refine zad ?_ | refine wT fun _ => ?_ | refine wF fun _ => ?_ | ((first | refine wCsD ?_ ?_ | refine wCsNB ?_ ?_ | refine wCs ?_ ?_) <;> intro hb))
  all_goals first | exact zaw (by rfl) rfl ghasA ⟨(_, _), rfl, rfl, trivial⟩ | exact ⟨_, subA, subA⟩
end Go.Proofs.YtjhkehloipmjfaaGreat
namespace Go.Proofs.YtjhkehloipmjfaaGreat
open Ieee
end Go.Proofs.YtjhkehloipmjfaaGreat
namespace Go.Proofs.YtjhkehloipmjfaaGreat
open Go.RowKit
end Go.Proofs.YtjhkehloipmjfaaGreat
namespace Go.Proofs.YtjhkehloipmjfaaGreat
open Go.RowKit
section
variable {nt : Nat} {w0 : W0} {S0 : Nat → Nat → Prop} {fr : Fr} {σ : Obs} {ops : Array Oper} {o1 o2 o3 : Oper} {rest : List Oper} {Q : Fr → Obs → Prop} {d1 d2 d3 i : Nat} {x : Operand} {s : ByteArray} {g : FuncId}
end
end Go.Proofs.YtjhkehloipmjfaaGreat
namespace Go.Proofs.YtjhkehloipmjfaaGreat
open Go.RowKit
def linOk (n : Nat) (tl : List Oper) : Bool := (List.range tl.length).all fun j => match tl[j]? with
  | some o => (List.range j).all (fun i => onO o (n + i)) && o.after.all fun e => !Region.binds .any e || decide (e.on < n + j)
  | none => false
theorem zgL {n : Nat} {tl : List Oper} (h : linOk n tl = true) {j : Nat} {o : Oper} (ho : tl[j]? = some o) : (∀ i, i < j → ∃ e ∈ o.after, Region.binds .any e = true ∧ e.on = n + i) ∧ ∀ e ∈ o.after, Region.binds .any e = true → e.on < n + j := by
  unfold linOk at h
  rw [List.all_eq_true] at h
  have h1 := h j (List.mem_range.2 (List.getElem?_eq_some_iff.1 ho).1)
  rw [ho] at h1
  simp only [Bool.and_eq_true, List.all_eq_true, Array.all_eq_true_iff_forall_mem] at h1
  refine ⟨fun i hi => zbj (h1.1 i (List.mem_range.2 hi)), fun e he hb => ?_⟩
  have h5 := h1.2 e he
  rw [hb] at h5; simpa using h5
theorem zkb {P : Program} {l tl : List Oper} {QQ : Exit → Act → World → Prop} (hok : linOk l.length tl = true) : ∀ (k j : Nat) (a : Act) (w : World) (listed : Array Bool) (fuel : Nat), j + k = tl.length → k ≤ fuel → listed.size = (l ++ tl).length →
    (∀ i, i < l.length + j → listed.getD i true = true) → (∀ i, l.length + j ≤ i → i < (l ++ tl).length → listed.getD i true = false) → wpList P (l ++ tl).toArray QQ (tl.drop j) a w → wpAny P .any (l ++ tl).toArray QQ fuel listed a w := by
  intro k
  have hsum : (l ++ tl).length = l.length + tl.length := List.length_append
  have tf : ∀ (listed : Array Bool) (j : Nat), listed.size = (l ++ tl).length → j < (l ++ tl).length → (listed.getD j false = listed.getD j true) := by
    intro listed j hsz hj
    have : j < listed.size := by omega
    simp only [Array.getD, this, dif_pos]
  induction k with
  | zero =>
    intro j a w listed fuel hj hf hsz hl hun h
    rw [List.drop_of_length_le (by omega)] at h
    refine wpAny_done ?_ h fuel
    rw [List.eq_nil_iff_forall_not_mem]
    intro i hi
    obtain ⟨h1, q, hq, _⟩ := mem_ready.1 hi
    have hlt : i < (l ++ tl).length := by simpa using (Array.getElem?_eq_some_iff.1 hq).1
    rw [hl i (by omega)] at h1; cases h1
  | succ k ih =>
    intro j a w listed fuel hj hf hsz hl hun h
    obtain ⟨f, rfl⟩ : ∃ f, fuel = f + 1 := ⟨fuel - 1, by omega⟩
    obtain ⟨o, ho⟩ : ∃ o, tl[j]? = some o := ⟨_, List.getElem?_eq_getElem (by omega)⟩
    have hoA : (l ++ tl).toArray[l.length + j]? = some o := by
      rw [List.getElem?_toArray, List.getElem?_append_right (by omega), show l.length + j - l.length = j by omega]; exact ho
    obtain ⟨_, hback⟩ := zgL hok ho
    refine ⟨fun hr => ?_, fun i hi => ?_⟩
    · exfalso
      have : l.length + j ∈ Region.ready .any (l ++ tl).toArray listed := mem_ready.2 ⟨hun _ (Nat.le_refl _) (by omega), o, hoA, fun e he hb => by
        have := hback e he hb
        rw [tf listed _ hsz (by omega)]
        exact hl _ this⟩
      rw [hr] at this; cases this
    · obtain ⟨h1, q, hq, hdeps⟩ := mem_ready.1 hi
      have hlt : i < (l ++ tl).length := by simpa using (Array.getElem?_eq_some_iff.1 hq).1
      have hge : l.length + j ≤ i := by
        refine Classical.byContradiction fun hc => ?_
        rw [hl i (by omega)] at h1; cases h1
      have hij : i = l.length + j := by
        refine Classical.byContradiction fun hc => ?_
        have hqt : tl[i - l.length]? = some q := by
          rw [List.getElem?_toArray, List.getElem?_append_right (by omega)] at hq; exact hq
        obtain ⟨e, he, hb, hon⟩ := (zgL hok hqt).1 j (by omega)
        have h2 := hdeps e he hb
        rw [hon, tf listed _ hsz (by omega), hun _ (Nat.le_refl _) (by omega)] at h2
        cases h2
      subst hij
      rw [hoA] at hq
      injection hq with hq
      subst hq
      have hd : tl.drop j = o :: tl.drop (j + 1) := by
        have hjt : j < tl.length := by omega
        rw [List.drop_eq_getElem_cons hjt]
        rw [List.getElem?_eq_getElem hjt] at ho
        injection ho with ho
        rw [ho]
      rw [hd] at h
      unfold wpList at h
      have hnext : ∀ a' w', wpList P (l ++ tl).toArray QQ (tl.drop (j + 1)) a' w' → wpAny P .any (l ++ tl).toArray QQ f (listed.setIfInBounds (l.length + j) true) a' w' := fun a' w' h' => by
        refine ih (j + 1) a' w' _ f (by omega) (by omega) (by simpa using hsz) (fun i hi => ?_) (fun i h1 h2 => ?_) h'
        · by_cases e : l.length + j = i
          · subst e
            have : l.length + j < listed.size := by omega
            simp [this]
          · rw [getD_set_ne true e]; exact hl i (by omega)
        · rw [getD_set_ne true (by omega)]; exact hun i (by omega) h2
      unfold wpOp
      simp only [hoA]
      split
      · rename_i hw
        rw [if_pos hw] at h
        exact h.imp (Oper.wp_mono hnext) id
      · rename_i hw
        rw [if_neg hw] at h
        exact hnext _ _ h
theorem zf9 {X : Ctx} {ops : Array Oper} {τ0 σB : Obs} {Q Q' : Fr → Obs → Prop} (hq : ∀ fr σ, Q fr σ → Q' fr σ) : ∀ (l : List Oper) (k : Nat) (K : List Cr) (C : Cons) (fr : Fr), DSeq X ops τ0 σB Q k K C l fr → DSeq X ops τ0 σB Q' k K C l fr
  | [], _, _, _, _, h => hq _ _ h
  | _ :: rest, _, _, _, _, ⟨x, eff, hs, h⟩ => ⟨x, eff, hs, zf9 hq rest _ _ _ _ h⟩
section
variable {nt : Nat} {w0 : W0} {S0 : Nat → Nat → Prop} {fr : Fr} {σ : Obs}
theorem uLin (n : Nat) {id : Nat} {l l1 l2 : List Oper} {QQ : Exit → Fr → Obs → Prop} (h1 : l.take n = l1) (h2 : l.drop n = l2) (h : DSeq (cx nt w0 S0) l.toArray [] σ (fun fr σ => RL (cx nt w0 S0) l.toArray l2 fr σ (QQ .normal)) 0 [] [] l1 fr)
    (hok : preOk l1 l2 = true := by kernel_rfl) (hlin : linOk l1.length l2 = true := by kernel_rfl) (hne : Nat.blt 0 l2.length = true := by rfl) : W (cx nt w0 S0) (.region id l.toArray true) fr σ QQ := by
  have e : l = l1 ++ l2 := by rw [← h1, ← h2, List.take_append_drop]
  subst e
  refine zk0 (X := cx nt w0 S0) zem [] σ (Nat.le_of_ble_eq_true hne) hok (fun p hp => by cases hp) (fun _ _ h => h) ?_
  refine zf9 (fun fr σ hq γ T S w a listed fuel hr hsz hl hun hf => ?_) _ _ _ _ _ h
  exact zkb hlin l2.length 0 a w listed fuel (by omega) hf hsz hl hun (hq.out γ T S w a (LQ (cx nt w0 S0) QQ) hr fun γ T S _ _ fr σ hr hq => ⟨γ, T, S, fr, σ, hr, hq⟩)
end
end Go.Proofs.YtjhkehloipmjfaaGreat
namespace Go.Proofs.YtjhkehloipmjfaaGreat
open Go.RowKit
def opF : Nat → BinOp
  | 0 => .add
  | 1 => .sub
  | _ => .mul
def arF (k : Nat) (x y : Nat) : Nat := match floatBits (opF k) .f64 x y with
  | some r => canon r
  | none => nanBits
theorem zkM (t : Nat) : FloatKind.f64.format.order ((t % 2) * 2 ^ 63 + 0x7ff0000000000000 + 1 + (t / 2) % (2 ^ 52 - 1)) ((t % 2) * 2 ^ 63 + 0x7ff0000000000000 + 1 + (t / 2) % (2 ^ 52 - 1)) = none := by
  obtain ⟨u, hu⟩ : ∃ u, t % 2 = u := ⟨_, rfl⟩
  obtain ⟨v, hv⟩ : ∃ v, (t / 2) % (2 ^ 52 - 1) = v := ⟨_, rfl⟩
  have hu2 : u = 0 ∨ u = 1 := by omega
  have hv2 : v < 2 ^ 52 - 1 := by rw [← hv]; exact Nat.mod_lt _ (by decide)
  rw [hu, hv]
  clear hu hv
  obtain ⟨b, hb⟩ : ∃ b, u * 2 ^ 63 + 0x7ff0000000000000 + 1 + v = b := ⟨_, rfl⟩
  rw [hb]
  obtain ⟨s, f, hr⟩ : ∃ s f, Ieee.double.read b = .nan s f := by
    unfold Ieee.Format.read
    have hsw : Ieee.double.signWeight = 2 ^ 63 := rfl
    have hbi : Ieee.double.binade = 2 ^ 52 := rfl
    have hinf : Ieee.double.infRung = 2047 * 2 ^ 52 := rfl
    rw [hsw, hbi, hinf]
    simp only
    rw [if_neg (by omega), if_neg (by omega), if_neg (by omega)]
    exact ⟨_, _, rfl⟩
  show (Ieee.double.read b).order (Ieee.double.read b) = none
  rw [hr]
  rfl
theorem zmw (k : Nat) (t : TypeId) (x y : Nat) (w : World) : ∃ b w', (binOp (opF k) t (.float .f64 x) (.float .f64 y)).run Tryz.prog w = .ok (.float .f64 b) w' ∧ Below w.heap.size w w' ∧ canon b = arF k x y := by
  cases h : floatBits (opF k) .f64 x y with
  | some r => exact ⟨r, w, run_float_arith w _ t .f64 x y r h, .refl _ _, by unfold arF; rw [h]⟩
  | none =>
    have hcan : ∀ t, canon ((t % 2) * 2 ^ 63 + 0x7ff0000000000000 + 1 + (t / 2) % (2 ^ 52 - 1)) = arF k x y := fun t => by
      unfold canon Op.floatEq arF
      rw [zkM, h]
      rfl
    have hop : ∀ (op : BinOp), op = .add ∨ op = .sub ∨ op = .mul → floatBits op .f64 x y = none → ∃ b w', (binOp op t (.float .f64 x) (.float .f64 y)).run Tryz.prog w = .ok (.float .f64 b) w' ∧ Below w.heap.size w w' ∧ canon b = arF k x y := by
      intro op ho hn
      unfold floatBits at hn
      rcases ho with rfl | rfl | rfl
      all_goals
        simp only at hn
        refine ⟨Question.cut (.nanBits .f64 x y) (w.tape w.drawn (.nanBits .f64 x y)), { w with drawn := w.drawn + 1 }, ?_, ⟨rfl, rfl, rfl, Nat.le_refl _, fun _ _ => rfl⟩, hcan _⟩
        simp [binOp, Op.floatArith, hn, choose, Sem.run, Question.forced, Question.cut]
    refine hop _ ?_ h
    match k with
    | 0 => exact .inl rfl
    | 1 => exact .inr (.inl rfl)
    | k + 2 => exact .inr (.inr rfl)
section
variable {nt : Nat} {w0 : W0} {S0 : Nat → Nat → Prop} {fr : Fr} {σ : Obs} {ops : Array Oper} {o o1 o2 : Oper} {rest : List Oper} {Q : Fr → Obs → Prop} {d d1 d2 x y : Nat} {xx yy : Operand} {t t2 : TypeId} {ats : Array TypeId}
theorem uIF {n : Int} (h : RL (cx nt w0 S0) ops rest ((d, vF (FloatKind.f64.nearest n)) :: fr) σ Q) (ho : o.op = .convert 2 26 xx := by rfl) (hx : ev fr xx = some (vI n) := by rfl)
    (hw : wantA ops o fr = some true := by rfl) (hdst : o.dst = some d := by rfl) (hd : Nat.blt d nt = true := by rfl) : RL (cx nt w0 S0) ops (o :: rest) fr σ Q :=
  uRaw (fun γ T S w a hr => by
    have e1 := zaJ (zak hr hx)
    refine ⟨.float .f64 (FloatKind.f64.nearest n), w, S, ?_, zbc S w, fun _ _ => .one (.v _ rfl)⟩
    simp [execOp, ho, e1, convert, run_underlying Tryz.underlying26, run_underlying Tryz.underlying2, Conv.intToFloat]) h hw hdst hd
end
end Go.Proofs.YtjhkehloipmjfaaGreat
namespace Go.Proofs.YtjhkehloipmjfaaGreat
open Go.RowKit
section
variable {w0 : W0} {S0 : Nat → Nat → Prop} {nt : Nat} {fr : Fr} {σ : Obs} {o : Oper} {ops : Array Oper} {rest : List Oper} {d : Nat} {t t2 : TypeId} {Q : Fr → Obs → Prop} {xx yy : Operand} {x y : Nat}
theorem uFop (k : Nat) (h : ∀ b, RL (cx nt w0 S0) ops rest ((d, vF b) :: fr) σ Q) (ho : o.op = .binOp (opF k) t xx yy t2 := by rfl) (hdst : o.dst = some d := by rfl) (hd : Nat.blt d nt = true := by rfl) (hw : wantA ops o fr = some true := by rfl) (hx : ev fr xx = some (vF x) := by rfl) (hy : ev fr yy = some (vF y) := by rfl) : RL (cx nt w0 S0) ops (o :: rest) fr σ Q :=
  ⟨fun γ T S w a K hr hk => wpList_step fun K' hK => by
    rw [if_pos (zau hr hw)]
    have v1 := zaJ (zak hr hx)
    have v2 := zaJ (zak hr hy)
    obtain ⟨b, w', hrun, hbel, _⟩ := zmw k t x y w
    have x1 : (execOp a.eval o).run Tryz.prog w = .ok (.value (.float .f64 b)) w' := by
      clear h
      match k, ho, hrun with
      | 0, ho, hrun => simp only [opF] at ho hrun; simp [execOp, ho, v1, v2, eqGuard, hrun]
      | 1, ho, hrun => simp only [opF] at ho hrun; simp [execOp, ho, v1, v2, eqGuard, hrun]
      | k + 2, ho, hrun => simp only [opF] at ho hrun; simp [execOp, ho, v1, v2, eqGuard, hrun]
    unfold Oper.wp
    show Oper.upon Tryz.prog o a K' K ((execOp a.eval o).run Tryz.prog w)
    rw [x1, Oper.upon_value]
    refine hK _ _ ((h b).out γ T S w' _ K ?_ hk)
    rw [hdst]
    exact (hr.grow hbel (fun _ _ h => h) (fun _ _ h => .inl h)).put (dst := some d) hd (.one (.v _ rfl))⟩
end
theorem zgc (n : Int) : ∃ f : Nat, ExtV Tryz.prog 164 [vUE n] (vF f) := by
  refine ⟨?f, ⟨fun S w vs h => ?_⟩⟩
  case f => exact n.toNat
  obtain ⟨v, rfl, h1⟩ := args1 h
  rw [pv_v h1]
  exact ⟨_, by kernel_rfl, fun _ _ => .one (.v _ rfl)⟩
noncomputable def fromF (n : Int) : Nat := Classical.choose (zgc n)
theorem zlh (n : Int) : ExtV Tryz.prog 164 [vUE n] (vF (fromF n)) := Classical.choose_spec (zgc n)
theorem zir (op : ByteArray) (a b : Val) : CallsN Tryz.prog 149 [vS op, .dat (encV a), .dat (encV b)] [] ValI := by
  have h1 := zcF a
  have h2 := zcF b
  have h3 := zg5
  have h4 := zcP a
  have h5 := zcP b
  have h6 := zjs a.n b.n
  have h7 := zlV
  (refine zam (Ty := Ty) zag Tryz.func149 rfl rfl rfl (by rfl) fun w0 S0 hp => ?_; simp only [argsF, List.zipIdx_cons, List.zipIdx_nil, List.map_cons, List.map_nil, Nat.zero_add])
  repeat' (first | refine zac ?_ | refine zaa ?_ | ((first | refine zab ?_ | refine zaf ?_ | refine zae ?_); (first | change W _ _ _ _ _ | change EndN _ _ _ _ _ _ | change Exists _ )) | (refine isRL ?_; first | refine uNx h3 (fun i _ => ?_) | refine uNx h4 (fun i _ => ?_) | refine uNx h5 (fun i _ => ?_) | refine uNx h6 (fun i _ => ?_) | refine uNx (h7 _ _) (fun i _ => ?_) | refine uIF ?_ | refine uFop 0 (fun z => ?_) | refine uFop 1 (fun z => ?_) | refine uFop 2 (fun z => ?_) | refine uMv ?_ | refine uAs ?_ | refine uO ?_ | (refine isBin ?_; first | refine uBb true ?_ | refine uBb false ?_ | refine uP ?_) | (refine isLd ?_; first | refine uLb ?_ | refine uL1 ?_ ) | (refine isCl ?_; first | refine uC (h1) ?_ | refine uC (h2) ?_ | refine uC (zcZ _) ?_ | refine uE (zlh _) ?_ ) | (refine isFa ?_; first | refine uP ?_) | (refine isBd ?_; first | refine uBd ?_ ) | (refine isSt ?_; first | refine uSw ?_ ) | refine uP ?_ | refine uBx ?_ | refine uN ?_ | ((first | refine uGsD ?_ ?_ | refine uGsNB ?_ ?_ | refine uGs ?_ ?_) <;> intro hb)) | refine wT fun _ => ?_ | refine wF fun _ => ?_ | ((first | refine wCsD ?_ ?_ | refine wCsND ?_ ?_ | refine wCsNB ?_ ?_ | refine wCs ?_ ?_) <;> intro hb))
  all_goals first | exact zaw (by rfl) rfl ghasA ⟨(_, _), rfl, rfl, trivial⟩ | exact zaw (by rfl) rfl ghasA ⟨(⟨_, _, _, _⟩, _), rfl, rfl, trivial⟩
end Go.Proofs.YtjhkehloipmjfaaGreat
namespace Go.Proofs.YtjhkehloipmjfaaGreat
open Go.RowKit
abbrev IntI : VV → Obs → Prop := fun y σ1 => ∃ i : Int × Int, y = .tup [vI i.1, vI i.2] ∧ σ1 = [] ∧ True
theorem zd0 (t : Int) : CallsN Tryz.prog 173 [vI t] [] OneB := by
  (refine zam (Ty := Ty) zag Tryz.func173 rfl rfl rfl (by rfl) fun w0 S0 hp => ?_; simp only [argsF, List.zipIdx_cons, List.zipIdx_nil, List.map_cons, List.map_nil, Nat.zero_add])
  repeat' (first | refine zac ?_ | refine zaa ?_ | ((first | refine zab ?_ | refine zae ?_); (first | change W _ _ _ _ _ | change EndN _ _ _ _ _ _ )) | (refine isRL ?_; first | refine uMv ?_ | refine uAs ?_ | refine uO ?_ | (refine isBin ?_; first | refine uP ?_) | refine uP ?_ | ((first | refine uGsD ?_ ?_ ) <;> intro hb)))
  all_goals exact zaw (by rfl) rfl ghasA ⟨_, rfl, rfl, trivial⟩
theorem zlc (t : Int) : CallsN Tryz.prog 146 [vI t] [] OneI := by
  have h := zd0 t
  (refine zam (Ty := Ty) zag Tryz.func146 rfl rfl rfl (by rfl) fun w0 S0 hp => ?_; simp only [argsF, List.zipIdx_cons, List.zipIdx_nil, List.map_cons, List.map_nil, Nat.zero_add])
  repeat' (first | refine zac ?_ | refine zaa ?_ | ((first | refine zab ?_ | refine zaf ?_ | refine zae ?_); (first | change W _ _ _ _ _ | change EndN _ _ _ _ _ _ | change Exists _ )) | (refine isRL ?_; first | refine uNx h (fun i _ => ?_) | refine uMv ?_ | refine uAs ?_ | (refine isBin ?_; first | refine uP ?_) ) | ((first | refine wCs ?_ ?_) <;> intro hb))
  all_goals exact zaw (by rfl) rfl ghasA ⟨_, rfl, rfl, trivial⟩
theorem zjH (v : Val) : CallsN Tryz.prog 96 [.dat (encV v)] [] IntI := by
  (refine zam (Ty := Ty) zag Tryz.func96 rfl rfl rfl (by rfl) fun w0 S0 hp => ?_; simp only [argsF, List.zipIdx_cons, List.zipIdx_nil, List.map_cons, List.map_nil, Nat.zero_add])
  repeat' (first | refine zac ?_ | refine zaa ?_ | ((first | refine zab ?_ | refine zaf ?_ | refine zae ?_); (first | change W _ _ _ _ _ | change EndN _ _ _ _ _ _ | change Exists _ )) | (refine isRL ?_; first | refine uMv ?_ | refine uAs ?_ | refine uO ?_ | (refine isBin ?_; first | refine uBb true ?_ | refine uBb false ?_ | refine uP ?_) | (refine isLd ?_; first | refine uL1 ?_ ) | (refine isFa ?_; first | refine uP ?_) | refine uP ?_ | refine uBx ?_ | ((first | refine uGsD ?_ ?_ ) <;> intro hb)) | refine wF fun _ => ?_ | ((first | refine wCsD ?_ ?_ ) <;> intro hb))
  all_goals exact zaw (by rfl) rfl ghasA ⟨(_, _), rfl, rfl, trivial⟩
theorem zlL (l : List Int) (dd : Int) : CallsN Tryz.prog 148 [vL (l.map encT), vI dd] [] OneI := by
  have hlm : (l.map encT).length = l.length := List.length_map _
  have h := zd0
  (refine zam (Ty := Ty) zag Tryz.func148 rfl rfl rfl (by rfl) fun w0 S0 hp => ?_; simp only [argsF, List.zipIdx_cons, List.zipIdx_nil, List.map_cons, List.map_nil, Nat.zero_add])
  repeat' (first | refine zac ?_ | refine zaa ?_ | ((first | refine zab ?_ ); (first | change W _ _ _ _ _ )) | (refine isRL ?_; first | refine uMv ?_ | refine uAs ?_ | (refine isBin ?_; first | refine uP ?_) ) | refine zad ?_ )
  refine zaL (α := Nat × Int) (fun x => [(0, vL (l.map encT)), (1, vI dd), (5, vI x.2), (6, vI x.1)]) (fun _ => []) (fun x => x.1 ≤ l.length) (fun x => l.length - x.1) (0, IntKind.i64.wrap (1 - dd)) (Nat.zero_le _) subA subA ?_
  rintro ⟨k, out⟩ hk
  dsimp only at hk ⊢
  refine zbp (t := 0) (rows := l.map encT) rfl rfl fun hlim => ?_
  rw [hlm] at hlim
  by_cases hlt : k < l.length
  · obtain ⟨q, hq⟩ : ∃ q, l[k]? = some q := ⟨_, List.getElem?_eq_getElem hlt⟩
    repeat' (first | refine zac ?_ | refine zaa ?_ | ((first | refine zab ?_ | refine zaf ?_ | refine zae ?_); (first | change W _ _ _ _ _ | change Exists _ )) | (refine isRL ?_; first | refine uNx (h q) (fun i _ => ?_) | refine uMv ?_ | refine uAs ?_ | (refine isBin ?_; first | refine uIb ?_ | refine uBb true ?_ | refine uP ?_) | (refine isLd ?_; first | refine uL2 ?_ ) | (refine isCl ?_; first | refine uP ?_) | refine uX ?_ | refine uP ?_) | refine zad ?_ | refine wT fun _ => ?_ | ((first | refine wCsD ?_ ?_ | refine wCsNB ?_ ?_ ) <;> intro hb))
    all_goals first | exact zaw (by rfl) rfl ghasA ⟨_, rfl, rfl, trivial⟩ | exact ⟨(k + 1, _), by dsimp only; omega, by dsimp only; omega, subA, subA⟩
  · repeat' (first | refine zac ?_ | refine zaa ?_ | ((first | refine zab ?_ | refine zaD ?_ | refine zae ?_); (first | change W _ _ _ _ _ | change EndN _ _ _ _ _ _ )) | (refine isRL ?_; first | refine uMv ?_ | refine uAs ?_ | (refine isBin ?_; first | refine uBb false ?_ ) | (refine isCl ?_; first | refine uP ?_) ) | refine wF fun _ => ?_ )
    exact zaw (by rfl) rfl ghasA ⟨_, rfl, rfl, trivial⟩
theorem zjv (t : Int) : CallsN Tryz.prog 145 [vI t] [] OneV := by
  have h := zd0 t
  (refine zam (Ty := Ty) zag Tryz.func145 rfl rfl rfl (by rfl) fun w0 S0 hp => ?_; simp only [argsF, List.zipIdx_cons, List.zipIdx_nil, List.map_cons, List.map_nil, Nat.zero_add])
  repeat' (first | refine zac ?_ | refine zaa ?_ | ((first | refine zab ?_ | refine zaf ?_ | refine zae ?_); (first | change W _ _ _ _ _ | change EndN _ _ _ _ _ _ | change Exists _ )) | (refine isRL ?_; first | refine uNx h (fun i _ => ?_) | refine uMv ?_ | (refine isBd ?_; first | refine uBd ?_ ) | (refine isSt ?_; first | refine uSw ?_ ) | refine uP ?_ | refine uN ?_) | ((first | refine wCsNB ?_ ?_ ) <;> intro hb))
  all_goals exact zaw (by rfl) rfl ghasA ⟨⟨_, _, _, _⟩, rfl, rfl, trivial⟩
end Go.Proofs.YtjhkehloipmjfaaGreat
