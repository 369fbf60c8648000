/- Walks: how many pieces; elements; plain patterns. -/
import Derived.Test.YtjhkehloipmjfaaGreatMK
import Derived.Test.YtjhkehloipmjfaaGreatG1
import Derived.Test.YtjhkehloipmjfaaGreatG3
import Derived.Test.YtjhkehloipmjfaaGreatQI
import Derived.Test.YtjhkehloipmjfaaGreatVH
import Derived.Test.YtjhkehloipmjfaaGreatMB
import Derived.Test.YtjhkehloipmjfaaGreatGR
set_option maxRecDepth 100000
set_option maxHeartbeats 16000000
namespace Go.Proofs.YtjhkehloipmjfaaGreat
open Go.RowKit
theorem zf0 (A s t : Nat) (ht : 1 ≤ t) : min (min (1 + A) 401 + (min s 401 + 1) * t) 401 = min (1 + (A + (s + 1) * t)) 401 := by
  by_cases h : s ≤ 401
  · rw [Nat.min_eq_left h]; omega
  · rw [Nat.min_eq_right (show 401 ≤ s by omega)]
    have h1 : 402 * 1 ≤ 402 * t := Nat.mul_le_mul_left _ ht
    have h2 : 402 * t ≤ (s + 1) * t := Nat.mul_le_mul_right _ (by omega)
    rw [show 401 + 1 = 402 from rfl]
    omega
theorem ziG (A s : Nat) : min (min (1 + A) 401 + min s 401) 401 = min (1 + (A + s)) 401 := by omega
theorem zis (a : Int) (n : Nat) (h : a = n) : (if (401 : Int) < a then (401 : Int) else a) = ((min n 401 : Nat) : Int) := by
  subst h; split <;> omega
def wP (p k : Pt) : Nat := if p.kind = 5 then (sizeN k + 1) * timesP p else sizeN k
theorem zk9 (p : Pt) : sizeN p = 1 + (p.kids.map (wP p)).sum := by rw [zdQ]; rfl
theorem zjW {p q : Pt} {k : Nat} (hq : p.kids[k]? = some q) : ((p.kids.take (k + 1)).map (wP p)).sum = ((p.kids.take k).map (wP p)).sum + wP p q := by
  rw [List.take_add_one, hq, Option.toList_some, List.map_append, List.sum_append]; simp
theorem zg2 : ∀ p : Pt, rightP p = true → CallsV Tryz.prog 29 [.dat (encP p)] (.val (vI ((min (sizeN p) 401 : Nat) : Int))) := Pt.ind fun p ih h => by
  have hr := za3 h
  have hlm : (p.kids.map encP).length = p.kids.length := List.length_map _
  (refine zaj (Ty := Ty) zag Tryz.func29 rfl rfl rfl fun w0 S0 => ?_; simp only [argsF, List.zipIdx_cons, List.zipIdx_nil, List.map_cons, List.map_nil, Nat.zero_add])
  repeat (first | refine zac ?_ | refine zaa ?_ | ((first | refine zab ?_ ); (first | change W _ _ _ _ _ )) | (refine isRL ?_; first | refine uMv ?_ | refine uAs ?_ | (refine isLd ?_; first | refine uL1 ?_ ) | (refine isCl ?_; first | refine uP ?_) | (refine isFa ?_; first | refine uP ?_) | refine uBx ?_ ) | refine zad ?_ )
  refine zaL (α := Nat) (fun k => [(1, .one (.po 1 0)), (3, vI ((min (1 + ((p.kids.take k).map (wP p)).sum) 401 : Nat) : Int)), (9, vL (p.kids.map encP)), (10, vI ((p.kids.map encP).length : Int)), (11, vI k)]) (fun _ => [(1, .box 34 (encP p))]) (fun k => k ≤ p.kids.length) (fun k => p.kids.length - k) 0 (Nat.zero_le _) subA subA ?_
  intro k hk
  refine zbp (t := 9) rfl rfl fun hlim => ?_
  by_cases hlt : k < p.kids.length
  · obtain ⟨q, hq⟩ : ∃ q, p.kids[k]? = some q := ⟨_, List.getElem?_eq_getElem hlt⟩
    have hQ := ih q (List.mem_of_getElem? hq) (hr q (List.mem_of_getElem? hq))
    have hnx := zjW hq
    by_cases k5 : p.kind = 5
    · obtain ⟨_, h1, h2, h3⟩ := za6 h k5
      have hw : wP p q = (sizeN q + 1) * timesP p := by unfold wP; rw [if_pos k5]
      by_cases hm : p.max < 0
      · have ht : timesP p = (p.min + 1).toNat := by unfold timesP; rw [if_pos hm]
        have e1 : (((min (sizeN q) 401 : Nat) : Int) + 1) * (p.min + 1) = (((min (sizeN q) 401 + 1) * timesP p : Nat) : Int) := by
          rw [Int.natCast_mul, ht, Int.toNat_of_nonneg (by omega)]; rfl
        have hmul : (min (sizeN q) 401 + 1) * timesP p ≤ 402 * 21 := Nat.mul_le_mul (by omega) (by omega)
        have e2 : -9223372036854775808 ≤ (((min (sizeN q) 401 : Nat) : Int) + 1) * (p.min + 1) ∧ (((min (sizeN q) 401 : Nat) : Int) + 1) * (p.min + 1) ≤ 100000 := by rw [e1]; omega
        obtain ⟨e3, e4⟩ := e2
        repeat (first | refine zac ?_ | refine zaa ?_ | ((first | refine zab ?_ | refine zaf ?_ ); (first | change W _ _ _ _ _ | change Exists _ )) | (refine isRL ?_; first | refine uMv ?_ | refine uAs ?_ | (refine isBin ?_; first | refine uIb ?_ | refine uBb true ?_ ) | (refine isLd ?_; first | refine uLp ?_ | refine uLb ?_ | refine uL1 ?_ ) | (refine isCl ?_; first | refine uC (hQ) ?_ | refine uP ?_) | (refine isFa ?_; first | refine uP ?_) | (refine isSt ?_; first | refine uSw ?_ ) | refine uX ?_ | refine uN ?_) | refine zad ?_ | refine wT fun _ => ?_ )
        rw [zis _ (min (1 + ((p.kids.take k).map (wP p)).sum) 401 + (min (sizeN q) 401 + 1) * timesP p) (by rw [e1]; rfl), zf0 _ _ _ (by omega), ← hw, ← hnx]
        exact ⟨k + 1, by omega, hlt, subA, subA⟩
      · have ht : timesP p = p.max.toNat := by unfold timesP; rw [if_neg hm]
        have e1 : (((min (sizeN q) 401 : Nat) : Int) + 1) * p.max = (((min (sizeN q) 401 + 1) * timesP p : Nat) : Int) := by
          rw [Int.natCast_mul, ht, Int.toNat_of_nonneg (by omega)]; rfl
        have hmul : (min (sizeN q) 401 + 1) * timesP p ≤ 402 * 21 := Nat.mul_le_mul (by omega) (by omega)
        have e2 : -9223372036854775808 ≤ (((min (sizeN q) 401 : Nat) : Int) + 1) * p.max ∧ (((min (sizeN q) 401 : Nat) : Int) + 1) * p.max ≤ 100000 := by rw [e1]; omega
        obtain ⟨e3, e4⟩ := e2
        repeat (first | refine zac ?_ | refine zaa ?_ | ((first | refine zab ?_ | refine zaf ?_ ); (first | change W _ _ _ _ _ | change Exists _ )) | (refine isRL ?_; first | refine uMv ?_ | refine uAs ?_ | (refine isBin ?_; first | refine uIb ?_ | refine uBb true ?_ | refine uBb false ?_ ) | (refine isLd ?_; first | refine uLp ?_ | refine uLb ?_ | refine uL1 ?_ ) | (refine isCl ?_; first | refine uC (hQ) ?_ | refine uP ?_) | (refine isFa ?_; first | refine uP ?_) | (refine isSt ?_; first | refine uSw ?_ ) | refine uX ?_ | refine uN ?_) | refine zad ?_ | refine wT fun _ => ?_ | refine wF fun _ => ?_)
        rw [zis _ (min (1 + ((p.kids.take k).map (wP p)).sum) 401 + (min (sizeN q) 401 + 1) * timesP p) (by rw [e1]; rfl), zf0 _ _ _ (by omega), ← hw, ← hnx]
        exact ⟨k + 1, by omega, hlt, subA, subA⟩
    · have hw : wP p q = sizeN q := by unfold wP; rw [if_neg k5]
      repeat (first | refine zac ?_ | refine zaa ?_ | ((first | refine zab ?_ | refine zaf ?_ ); (first | change W _ _ _ _ _ | change Exists _ )) | (refine isRL ?_; first | refine uMv ?_ | refine uAs ?_ | (refine isBin ?_; first | refine uIb ?_ | refine uBb true ?_ | refine uBb false ?_ ) | (refine isLd ?_; first | refine uLp ?_ | refine uLb ?_ | refine uL1 ?_ ) | (refine isCl ?_; first | refine uC (hQ) ?_ | refine uP ?_) | (refine isFa ?_; first | refine uP ?_) | (refine isSt ?_; first | refine uSw ?_ ) | refine uX ?_ | refine uN ?_) | refine zad ?_ | refine wT fun _ => ?_ | refine wF fun _ => ?_)
      rw [zis _ (min (1 + ((p.kids.take k).map (wP p)).sum) 401 + min (sizeN q) 401) (by rfl), ziG, ← hw, ← hnx]
      exact ⟨k + 1, by omega, hlt, subA, subA⟩
  · have hkl : k = p.kids.length := by omega
    subst hkl
    rw [List.take_length, ← zk9]
    repeat (first | refine zac ?_ | refine zaa ?_ | ((first | refine zab ?_ | refine zaD ?_ | refine zae ?_); (first | change W _ _ _ _ _ | change EndQ _ _ _ _ _ _ )) | (refine isRL ?_; first | refine uMv ?_ | refine uAs ?_ | (refine isBin ?_; first | refine uBb false ?_ ) ) | refine wF fun _ => ?_)
    exact zah (by rfl) rfl
end Go.Proofs.YtjhkehloipmjfaaGreat
namespace Go.Proofs.YtjhkehloipmjfaaGreat
open Go.RowKit
def namesQ (p : Pt) : List ByteArray := sortB (varsP p)
def headQ (q : Qy) : Bool := (if q.sel = 3 then decide (1 ≤ q.k ∧ q.k ≤ 1000) else decide (q.k = 0)) && decide (0 ≤ q.mode ∧ q.mode ≤ 3) && decide (0 ≤ q.sel ∧ q.sel ≤ 3)
def tailQ (q : Qy) : Int := if compN (namesQ q.pat) < (namesQ q.pat).length then 3 else if endsP q.pat = false then 5 else if 400 < sizeN q.pat then 6 else if (lenP q.pat).high = none ∧ q.mode = 0 ∧ q.sel = 0 then 5 else 0
def checkQ (q : Qy) : Int := if headQ q = false then 1 else if 50 < depthP 50 q.pat then 6 else if rightP q.pat = false then 1 else tailQ q
theorem zk8 {o : Option Nat} (h : o = none) : hiI o < 0 := by subst h; decide
theorem zlH {o : Option Nat} (h : ¬ o = none) : ¬ hiI o < 0 := by
  cases o with
  | none => exact absurd rfl h
  | some n => show ¬ (n : Int) < 0; omega
theorem in_v (n a b : Int) : CallsV Tryz.prog 56 [vI n, vI a, vI b] (.val (vB (decide (a ≤ n ∧ n ≤ b)))) := by
  by_cases h : a ≤ n ∧ n ≤ b
  · rw [decide_eq_true h]; exact inY h
  · rw [decide_eq_false h]; exact inO h
theorem zmC (o : Option Nat) : (o = none) = (hiI o < 0) := propext ⟨zk8, fun h => by
  cases o with
  | none => rfl
  | some n => exact absurd h (zlH (by simp))⟩
def HeadP (q : Qy) : Prop := ((q.sel = 3 ∧ 1 ≤ q.k ∧ q.k ≤ 1000) ∨ (¬ q.sel = 3 ∧ q.k = 0)) ∧ (0 ≤ q.mode ∧ q.mode ≤ 3) ∧ 0 ≤ q.sel ∧ q.sel ≤ 3
theorem zdB (q : Qy) : headQ q = true ↔ HeadP q := by
  unfold headQ HeadP
  by_cases h : q.sel = 3
  · simp only [if_pos h, Bool.and_eq_true, decide_eq_true_eq]; omega
  · simp only [if_neg h, Bool.and_eq_true, decide_eq_true_eq]; omega
theorem zlJ {q : Qy} (h : ¬ HeadP q) : 1 = checkQ q := by
  have : headQ q = false := by
    cases hh : headQ q with
    | false => rfl
    | true => exact absurd ((zdB q).1 hh) h
  unfold checkQ; rw [if_pos this]
theorem zlR {q : Qy} (h : HeadP q) (hd : 50 < depthP 50 q.pat) : 6 = checkQ q := by
  unfold checkQ; rw [if_neg (by rw [(zdB q).2 h]; decide), if_pos hd]
theorem zk5 {q : Qy} (h : HeadP q) (hd : ¬ 50 < depthP 50 q.pat) (hr : rightP q.pat = false) : 1 = checkQ q := by
  unfold checkQ; rw [if_neg (by rw [(zdB q).2 h]; decide), if_neg hd, if_pos hr]
theorem zh0 (q : Qy) (hvb : (varsP q.pat).length ≤ 1000000) : CallsV Tryz.prog 28 [.dat (encQ q)] (.val (vI (checkQ q))) := by
  have hD := zke q.pat
  have hR := zkW q.pat
  have hV := zl2 zlK q.pat hvb
  obtain ⟨L, hL⟩ : ∃ L, L = sortB (varsP q.pat) := ⟨_, rfl⟩
  have hLl : L.length ≤ 1000000 := by rw [hL, zcJ]; exact hvb
  have htail : tailQ q = if compN L < L.length then 3 else if endsP q.pat = false then 5 else if 400 < sizeN q.pat then 6 else if hiI (lenP q.pat).high < 0 ∧ q.mode = 0 ∧ q.sel = 0 then 5 else 0 := by rw [hL]; unfold tailQ namesQ; simp only [zmC]
  rw [← hL] at hV
  have hlm : (L.map encS).length = L.length := List.length_map _
  (refine zaj (Ty := Ty) zag Tryz.func28 rfl rfl rfl fun w0 S0 => ?_; simp only [argsF, List.zipIdx_cons, List.zipIdx_nil, List.map_cons, List.map_nil, Nat.zero_add])
  repeat' (first | refine zac ?_ | refine zaa ?_ | ((first | refine zab ?_ | refine zaf ?_ | refine zae ?_); (first | change W _ _ _ _ _ | skip)) | (refine isRL ?_; first | refine uMv ?_ | refine uAs ?_ | refine uO ?_ | (refine isBin ?_; first | refine uP ?_) | (refine isLd ?_; first | refine uL1 ?_ ) | (refine isCl ?_; first | refine uC (in_v _ _ _) ?_ | refine uC (hD) ?_ | refine uC (hR) ?_ | refine uCO (hV) ?_ ) | (refine isFa ?_; first | refine uP ?_) | refine uP ?_ | refine uBx ?_ | ((first | refine uGsN ?_ ?_ | refine uGsND ?_ ?_ ) <;> intro hb)) | refine zad ?_ | refine wT fun _ => ?_ | ((first | refine wCsD ?_ ?_ | refine wCsND ?_ ?_ | refine wCsNB ?_ ?_ ) <;> intro hb))
  all_goals try exact zah (by rfl) (zaU (zlJ (by unfold HeadP; omega)))
  all_goals try exact zah (by rfl) (zaU (zlR (by unfold HeadP; omega) (by omega)))
  all_goals try exact zah (by rfl) (zaU (zk5 (by unfold HeadP; omega) (by omega) (by assumption)))
  all_goals
    have hr : rightP q.pat = true := by assumption
    have hdef : checkQ q = tailQ q := by
      unfold checkQ
      rw [if_neg (by rw [(zdB q).2 (by unfold HeadP; omega)]; decide), if_neg (by omega), if_neg (by rw [hr]; decide)]
    rw [htail] at hdef
    have hE := zmy q.pat hr
    have hS := zg2 q.pat hr
    have hN := zf4 q.pat hr
    by_cases hl0 : L = []
    · clear hL
      subst hl0
      rw [if_neg (by decide)] at hdef
      repeat' (first | refine zac ?_ | refine zaa ?_ | ((first | refine zab ?_ | refine zaf ?_ | refine zae ?_); (first | change W _ _ _ _ _ | change EndQ _ _ _ _ _ _ | skip)) | (refine isRL ?_; first | refine uMv ?_ | refine uAs ?_ | refine uO ?_ | (refine isBin ?_; first | refine uBb false ?_ | refine uP ?_) | (refine isLd ?_; first | refine uL1 ?_ ) | (refine isCl ?_; first | refine uC (zkF) ?_ | refine uC (zie) ?_ | refine uC (hE) ?_ | refine uC (hS) ?_ | refine uC (hN) ?_ | refine uP ?_) | (refine isFa ?_; first | refine uP ?_) | refine uFld ?_ | refine uP ?_ | ((first | refine uGsD ?_ ?_ ) <;> intro hb)) | refine wF fun _ => ?_ | ((first | refine wCsD ?_ ?_ | refine wCsNB ?_ ?_ ) <;> intro hb))
      all_goals exact zah (by rfl) (zaU (by rw [hdef]; (repeat' split) <;> first | rfl | omega | simp_all))
    · have hCl := zlI L hLl hl0
      refine uCc L hCl zlD ?_
      repeat' (first | refine zac ?_ | refine zaa ?_ | ((first | refine zab ?_ | refine zaf ?_ | refine zae ?_); (first | change W _ _ _ _ _ | change EndQ _ _ _ _ _ _ | skip)) | (refine isRL ?_; first | refine uMv ?_ | refine uAs ?_ | refine uO ?_ | (refine isBin ?_; first | refine uBb false ?_ | refine uP ?_) | (refine isLd ?_; first | refine uL1 ?_ ) | (refine isCl ?_; first | refine uC (hE) ?_ | refine uC (hS) ?_ | refine uC (hN) ?_ | refine uP ?_) | (refine isFa ?_; first | refine uP ?_) | refine uFld ?_ | refine uP ?_ | ((first | refine uGsD ?_ ?_ ) <;> intro hb)) | refine wF fun _ => ?_ | ((first | refine wCsD ?_ ?_ | refine wCsNB ?_ ?_ ) <;> intro hb))
      all_goals exact zah (by rfl) (zaU (by rw [hdef]; (repeat' split) <;> first | rfl | omega | simp_all))
end Go.Proofs.YtjhkehloipmjfaaGreat
namespace Go.Proofs.YtjhkehloipmjfaaGreat
open Go.RowKit
theorem zki {cs : List D} {o : Nat} (p : Pt) (ho : o ≠ 0) (hl : cs.length = o + 20) : splice cs o (encP p) = cs.take o ++ encP p := by
  have hlen := zaC p
  have : splice cs o (encP p) = cs.take o ++ encP p ++ cs.drop (o + (encP p).length) := by
    rw [za9]
    unfold splice
    split
    · rename_i h; injection h with _ h; cases h
    · rw [if_neg (fun h => ho h.1)]
  rw [this, hlen, ← hl, List.drop_length, List.append_nil]
section
variable {w0 : W0} {S0 : Nat → Nat → Prop} {nt : Nat} {fr : Fr} {σ : Obs} {o : Oper} {ops : Array Oper} {rest : List Oper} {Q : Fr → Obs → Prop} {d : Nat} {t : TypeId} {i : TyI} {ds : List D} {ps : Array (Nat × Operand)}
theorem uBdQ (q : Qy) (h : RL (cx nt w0 S0) ops rest ((d, .dat (encQ q)) :: fr) σ Q) (ho : o.op = .build t ps := by rfl) (hw : wantA ops o fr = some true := by rfl) (hdst : o.dst = some d := by rfl) (hd : Nat.blt d nt = true := by rfl) (hi : Ty t = some i := by rfl) (ht : i.tag = 1 := by rfl)
    (hl : layF i.places fr ps.toList (i.zero.map zc) = some ds := by first | exact zaQ _ _ _ | exact (zal (by rfl) (by rfl) lenA leA (zaQ _ _ _)) | exact (zal (by rfl) (by rfl) lenA leA (zal (by rfl) (by rfl) lenA leA (zaQ _ _ _))) | exact (zal (by rfl) (by rfl) lenA leA (zal (by rfl) (by rfl) lenA leA (zal (by rfl) (by rfl) lenA leA (zaQ _ _ _)))) | exact (zal (by rfl) (by rfl) lenA leA (zal (by rfl) (by rfl) lenA leA (zal (by rfl) (by rfl) lenA leA (zal (by rfl) (by rfl) lenA leA (zaQ _ _ _))))) | exact (zal (by rfl) (by rfl) lenA leA (zal (by rfl) (by rfl) lenA leA (zal (by rfl) (by rfl) lenA leA (zal (by rfl) (by rfl) lenA leA (zal (by rfl) (by rfl) lenA leA (zaQ _ _ _)))))) | exact (zal (by rfl) (by rfl) lenA leA (zal (by rfl) (by rfl) lenA leA (zal (by rfl) (by rfl) lenA leA (zal (by rfl) (by rfl) lenA leA (zal (by rfl) (by rfl) lenA leA (zal (by rfl) (by rfl) lenA leA (zaQ _ _ _))))))) | exact (zal (by rfl) (by rfl) lenA leA (zal (by rfl) (by rfl) lenA leA (zal (by rfl) (by rfl) lenA leA (zal (by rfl) (by rfl) lenA leA (zal (by rfl) (by rfl) lenA leA (zal (by rfl) (by rfl) lenA leA (zal (by rfl) (by rfl) lenA leA (zaQ _ _ _))))))))) (hs : ds = encQ q := by refine (zki _ ?_ ?_).trans ?_ <;> first | decide | rfl) : RL (cx nt w0 S0) ops (o :: rest) fr σ Q :=
  uBd (cs := encQ q) h ho hw hdst hd hi ht hl hs
end
theorem ze2 {q : Qy} (h : checkQ q = 0) : rightP q.pat = true ∧ sizeN q.pat ≤ 400 := by
  unfold checkQ at h
  split at h
  · cases h
  split at h
  · cases h
  split at h
  · cases h
  rename_i h1 h2 h3
  unfold tailQ at h
  split at h
  · cases h
  split at h
  · cases h
  split at h
  · cases h
  rename_i h4
  exact ⟨by simpa using h3, by omega⟩
def ptA : Pt := ⟨2, ⟨#[]⟩, 4, zE, zE, 0, 0, []⟩
def litA : List D := [.v (.int .i64 2), .v (.string ⟨#[]⟩), .v (.int .i64 4), .v (.int .i64 0), .v (.string ⟨#[]⟩), .v (.int .i64 0), .v (.int .i64 0), .v (.float .f64 0), .v (.string ⟨#[]⟩), .sl [],
      .v (.int .i64 0), .v (.string ⟨#[]⟩), .v (.int .i64 0), .v (.int .i64 0), .v (.float .f64 0), .v (.string ⟨#[]⟩), .sl [], .v (.int .i64 0), .v (.int .i64 0), .sl []]
theorem zia : encP ptA = litA := by rw [za9]; rfl
theorem ziq : buildM (quantP ptA (-1)) = ⟨[ptA], [⟨0, 2, -1⟩, ⟨2, 2, 0⟩, ⟨2, 1, -1⟩], 3⟩ := by
  unfold buildM
  rw [zb7 (k := ptA) rfl rfl (by decide), zb9 (.inr rfl)]; rfl
theorem zjr : CallsV Tryz.prog 7 [] (.val (vB true)) := by
  have hB := zhT (quantP ptA (-1)) (zcC (.inr rfl) (by rw [zbT, if_pos (.inr rfl)]; rfl)) (by rw [zcB, zbf]; decide)
  rw [ziq, zcz, zia] at hB
  simp only [encA, List.map_cons, List.map_nil, zia, encMv, litA] at hB
  (refine zaj (Ty := Ty) zag Tryz.func7 rfl rfl rfl fun w0 S0 => ?_; simp only [argsF, List.zipIdx_nil, List.map_nil])
  repeat' (first | refine zac ?_ | refine zaa ?_ | ((first | refine zab ?_ | refine zae ?_); (first | change W _ _ _ _ _ | change EndQ _ _ _ _ _ _ )) | (refine isRL ?_; first | refine uMv ?_ | refine uAs ?_ | (refine isBin ?_; first | refine uBb true ?_ ) | (refine isLd ?_; first | refine uLb ?_ | refine uL1 ?_ | refine uL2 ?_ ) | (refine isCl ?_; first | refine uM (hB) ?_ | refine uP ?_) | (refine isFa ?_; first | refine uP ?_) | (refine isBd ?_; first | refine uBd ?_ ) | (refine isSt ?_; first | refine uSw ?_ ) | refine uX ?_ | refine uBs ?_ | refine uP ?_ | refine uN ?_ ))
  exact zah (by rfl) rfl
end Go.Proofs.YtjhkehloipmjfaaGreat
namespace Go.Proofs.YtjhkehloipmjfaaGreat
open Go.RowKit
structure SmallP (g : Gr) (p : Pt) : Prop where
  n8 : g.nodes.length ≤ 8
  n0 : 0 < g.nodes.length
  e10 : g.edges.length ≤ 10
  cnt : countP p ≤ 100
  right : graphRight g = 0
  check : checkQ ⟨1, 0, 0, p⟩ = 0
  size : sizeN p ≤ 40
section
variable {g : Gr} {p : Pt} (hN : ∀ n ∈ g.nodes, n.props.length ≤ 1048576) (hE : ∀ n ∈ g.edges, n.props.length ≤ 1048576) (hvb : (varsP p).length ≤ 1000000)
include hN hE hvb
theorem zi6 (h : SmallP g p) : CallsV Tryz.prog 8 [.dat (encG g), .dat (encP p)] (.val (vB true)) := by
  have hln : (g.nodes.map encNd).length = g.nodes.length := List.length_map _
  have hle : (g.edges.map encEd).length = g.edges.length := List.length_map _
  obtain ⟨h1, h2, h3, h4, h5, h6, h7⟩ := h
  have hG := zeg g hN hE
  have hC := zh0 ⟨1, 0, 0, p⟩ hvb
  have hS := zg2 p (ze2 h6).1
  have hK := zg4 p
  rw [h5] at hG
  rw [h6] at hC
  unfold encG at hG ⊢
  (refine zaj (Ty := Ty) zag Tryz.func8 rfl rfl rfl fun w0 S0 => ?_; simp only [argsF, List.zipIdx_cons, List.zipIdx_nil, List.map_cons, List.map_nil, Nat.zero_add])
  repeat' (first | refine zac ?_ | refine zaa ?_ | ((first | refine zab ?_ | refine zaf ?_ | refine zae ?_); (first | change W _ _ _ _ _ | change EndQ _ _ _ _ _ _ )) | (refine isRL ?_; first | refine uBdQ ⟨1, 0, 0, p⟩ ?_ | refine uMv ?_ | refine uAs ?_ | (refine isBin ?_; first | refine uBb true ?_ | refine uBb false ?_ ) | (refine isLd ?_; first | refine uLb ?_ | refine uL1 ?_ ) | (refine isCl ?_; first | refine uC (hG) ?_ | refine uC (hC) ?_ | refine uC (hS) ?_ | refine uC (hK) ?_ | refine uP ?_) | (refine isFa ?_; first | refine uP ?_) | refine uP ?_ | refine uBx ?_ ) | refine wF fun _ => ?_ )
  exact zah (by rfl) rfl
theorem zjY (h : ¬ SmallP g p) : CallsV Tryz.prog 8 [.dat (encG g), .dat (encP p)] (.val (vB false)) := by
  have hln : (g.nodes.map encNd).length = g.nodes.length := List.length_map _
  have hle : (g.edges.map encEd).length = g.edges.length := List.length_map _
  have hG := zeg g hN hE
  have hC := zh0 ⟨1, 0, 0, p⟩ hvb
  have hK := zg4 p
  generalize hgr : graphRight g = r at hG
  unfold encG at hG ⊢
  (refine zaj (Ty := Ty) zag Tryz.func8 rfl rfl rfl fun w0 S0 => ?_; simp only [argsF, List.zipIdx_cons, List.zipIdx_nil, List.map_cons, List.map_nil, Nat.zero_add])
  by_cases h1 : 8 < g.nodes.length
  · repeat' (first | refine zac ?_ | refine zaa ?_ | ((first | refine zab ?_ | refine zae ?_); (first | change W _ _ _ _ _ | skip)) | (refine isRL ?_; first | refine uMv ?_ | refine uAs ?_ | refine uO ?_ | (refine isBin ?_; first | refine uBb true ?_ ) | (refine isLd ?_; first | refine uL1 ?_ ) | (refine isCl ?_; first | refine uP ?_) | (refine isFa ?_; first | refine uP ?_) | refine uP ?_ | refine uBx ?_ ) | refine wT fun _ => ?_ )
    exact zah (by rfl) rfl
  by_cases h2 : g.nodes.length = 0
  · repeat' (first | refine zac ?_ | refine zaa ?_ | ((first | refine zab ?_ | refine zae ?_); (first | change W _ _ _ _ _ | skip)) | (refine isRL ?_; first | refine uMv ?_ | refine uAs ?_ | refine uO ?_ | (refine isBin ?_; first | refine uBb true ?_ | refine uBb false ?_ ) | (refine isLd ?_; first | refine uL1 ?_ ) | (refine isCl ?_; first | refine uP ?_) | (refine isFa ?_; first | refine uP ?_) | refine uP ?_ | refine uBx ?_ ) | refine wT fun _ => ?_ )
    exact zah (by rfl) rfl
  by_cases h3 : 10 < g.edges.length
  · repeat' (first | refine zac ?_ | refine zaa ?_ | ((first | refine zab ?_ | refine zae ?_); (first | change W _ _ _ _ _ | skip)) | (refine isRL ?_; first | refine uMv ?_ | refine uAs ?_ | refine uO ?_ | (refine isBin ?_; first | refine uBb true ?_ | refine uBb false ?_ ) | (refine isLd ?_; first | refine uL1 ?_ ) | (refine isCl ?_; first | refine uP ?_) | (refine isFa ?_; first | refine uP ?_) | refine uP ?_ | refine uBx ?_ ) | refine wT fun _ => ?_ )
    exact zah (by rfl) rfl
  by_cases h4 : 100 < countP p
  · repeat' (first | refine zac ?_ | refine zaa ?_ | ((first | refine zab ?_ | refine zae ?_); (first | change W _ _ _ _ _ | skip)) | (refine isRL ?_; first | refine uMv ?_ | refine uAs ?_ | (refine isBin ?_; first | refine uBb true ?_ | refine uBb false ?_ ) | (refine isLd ?_; first | refine uLb ?_ | refine uL1 ?_ ) | (refine isCl ?_; first | refine uC (hK) ?_ | refine uP ?_) | (refine isFa ?_; first | refine uP ?_) | refine uP ?_ | refine uBx ?_ ) | refine wT fun _ => ?_ )
    exact zah (by rfl) rfl
  by_cases h5 : r = 0
  · by_cases h6 : checkQ ⟨1, 0, 0, p⟩ = 0
    · rw [h6] at hC
      have hS := zg2 p (ze2 h6).1
      have h7 : 40 < sizeN p := by
        refine Nat.lt_of_not_le fun h7 => h ⟨by omega, by omega, by omega, by omega, by rw [hgr]; exact h5, h6, h7⟩
      subst h5
      repeat' (first | refine zac ?_ | refine zaa ?_ | ((first | refine zab ?_ | refine zaf ?_ | refine zae ?_); (first | change W _ _ _ _ _ | change EndQ _ _ _ _ _ _ )) | (refine isRL ?_; first | refine uBdQ ⟨1, 0, 0, p⟩ ?_ | refine uMv ?_ | refine uAs ?_ | (refine isBin ?_; first | refine uBb true ?_ | refine uBb false ?_ ) | (refine isLd ?_; first | refine uLb ?_ | refine uL1 ?_ ) | (refine isCl ?_; first | refine uC (hG) ?_ | refine uC (hC) ?_ | refine uC (hS) ?_ | refine uC (hK) ?_ | refine uP ?_) | (refine isFa ?_; first | refine uP ?_) | refine uP ?_ | refine uBx ?_ ) | refine wF fun _ => ?_ )
      exact zah (by rfl) rfl
    · generalize checkQ ⟨1, 0, 0, p⟩ = c at hC h6
      subst h5
      repeat' (first | refine zac ?_ | refine zaa ?_ | ((first | refine zab ?_ | refine zaf ?_ | refine zae ?_); (first | change W _ _ _ _ _ | change EndQ _ _ _ _ _ _ )) | (refine isRL ?_; first | refine uBdQ ⟨1, 0, 0, p⟩ ?_ | refine uMv ?_ | refine uAs ?_ | refine uO ?_ | (refine isBin ?_; first | refine uBb true ?_ | refine uBb false ?_ ) | (refine isLd ?_; first | refine uLb ?_ | refine uL1 ?_ ) | (refine isCl ?_; first | refine uC (hG) ?_ | refine uC (hC) ?_ | refine uC (hK) ?_ | refine uP ?_) | (refine isFa ?_; first | refine uP ?_) | refine uP ?_ | refine uBx ?_ ) | refine wF fun _ => ?_ )
      exact zah (by rfl) rfl
  · repeat' (first | refine zac ?_ | refine zaa ?_ | ((first | refine zab ?_ | refine zaf ?_ | refine zae ?_); (first | change W _ _ _ _ _ | change EndQ _ _ _ _ _ _ )) | (refine isRL ?_; first | refine uMv ?_ | refine uAs ?_ | refine uO ?_ | (refine isBin ?_; first | refine uBb false ?_ ) | (refine isLd ?_; first | refine uLb ?_ | refine uL1 ?_ ) | (refine isCl ?_; first | refine uC (hG) ?_ | refine uC (hK) ?_ | refine uP ?_) | (refine isFa ?_; first | refine uP ?_) | refine uP ?_ | refine uBx ?_ ) | refine wF fun _ => ?_ )
    exact zah (by rfl) rfl
end
end Go.Proofs.YtjhkehloipmjfaaGreat
