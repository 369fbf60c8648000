/- Walks: lengths, by the program and by the document. -/
import Derived.Test.YtjhkehloipmjfaaGreatWO
import Derived.Test.YtjhkehloipmjfaaGreatN0
set_option maxRecDepth 100000
set_option maxHeartbeats 4000000
namespace Go.Proofs.YtjhkehloipmjfaaGreat
open Go.RowKit
def hiI : Option Nat → Int
  | some h => h
  | none => -1
def encSp (s : Sp) : List D := [.v (.int .i64 s.low), .v (.int .i64 (hiI s.high))]
theorem zgn {z : Int} {n : Nat} (h : z = n) : (if (1000000 : Int) < z then (1000000 : Int) else z) = ((sat n : Nat) : Int) := by
  subst h; unfold sat; split <;> omega
abbrev di (n : Int) : D := .v (.int .i64 n)
theorem zlM (a h b g : Int) (ha : 0 ≤ a ∧ a ≤ 1000000) (hh : -1 ≤ h ∧ h ≤ 1000000) (hb : 0 ≤ b ∧ b ≤ 1000000) (hg : -1 ≤ g ∧ g ≤ 1000000) : CallsV Tryz.prog 91 [.dat [di a, di h], .dat [di b, di g]] (.val (.dat [di (if 1000000 < a + b then 1000000 else a + b), di (if 0 ≤ h ∧ 0 ≤ g then (if 1000000 < h + g then 1000000 else h + g) else -1)])) := by
  (refine zaj (Ty := Ty) zag Tryz.func91 rfl rfl rfl fun w0 S0 => ?_; simp only [argsF, List.zipIdx_cons, List.zipIdx_nil, List.map_cons, List.map_nil, Nat.zero_add])
  by_cases h1 : 0 ≤ h
  · by_cases h2 : 0 ≤ g
    · repeat (first | refine zac ?_ | refine zaa ?_ | ((first | refine zab ?_ | refine zae ?_); (first | change W _ _ _ _ _ | change EndQ _ _ _ _ _ _ )) | (refine isRL ?_; first | refine uMv ?_ | (refine isBin ?_; first | refine uIb ?_ | refine uBb true ?_ ) | (refine isLd ?_; first | refine uLb ?_ | refine uL1 ?_ ) | (refine isCl ?_; first | refine uP ?_) | (refine isFa ?_; first | refine uP ?_) | (refine isBd ?_; first | refine uBd ?_ ) | (refine isSt ?_; first | refine uSw ?_ | refine uS ?_ ) | refine uP ?_ | refine uBx ?_ | refine uN ?_ ) | refine wT fun _ => ?_ )
      exact zah (by rfl) (by rw [if_pos (show 0 ≤ h ∧ 0 ≤ g from ⟨h1, h2⟩)] <;> rfl)
    · repeat (first | refine zac ?_ | refine zaa ?_ | ((first | refine zab ?_ | refine zaf ?_ | refine zae ?_); (first | change W _ _ _ _ _ | change EndQ _ _ _ _ _ _ )) | (refine isRL ?_; first | refine uMv ?_ | (refine isBin ?_; first | refine uIb ?_ | refine uBb true ?_ | refine uBb false ?_ ) | (refine isLd ?_; first | refine uLb ?_ | refine uL1 ?_ ) | (refine isCl ?_; first | refine uP ?_) | (refine isFa ?_; first | refine uP ?_) | (refine isBd ?_; first | refine uBd ?_ ) | (refine isSt ?_; first | refine uSw ?_ ) | refine uP ?_ | refine uBx ?_ | refine uN ?_ ) | refine wF fun _ => ?_)
      exact zah (by rfl) (by rw [if_neg (show ¬ (0 ≤ h ∧ 0 ≤ g) from fun h => h2 h.2)] <;> rfl)
  · repeat (first | refine zac ?_ | refine zaa ?_ | ((first | refine zab ?_ | refine zaf ?_ | refine zae ?_); (first | change W _ _ _ _ _ | change EndQ _ _ _ _ _ _ )) | (refine isRL ?_; first | refine uMv ?_ | refine uO ?_ | (refine isBin ?_; first | refine uIb ?_ | refine uBb false ?_ ) | (refine isLd ?_; first | refine uLb ?_ | refine uL1 ?_ ) | (refine isCl ?_; first | refine uP ?_) | (refine isFa ?_; first | refine uP ?_) | (refine isBd ?_; first | refine uBd ?_ ) | (refine isSt ?_; first | refine uSw ?_ ) | refine uP ?_ | refine uBx ?_ | refine uN ?_ ) | refine wF fun _ => ?_)
    exact zah (by rfl) (by rw [if_neg (show ¬ (0 ≤ h ∧ 0 ≤ g) from fun h => h1 h.1)] <;> rfl)
theorem zmb (a h b g : Int) : CallsV Tryz.prog 92 [.dat [di a, di h], .dat [di b, di g]] (.val (.dat [di (if b < a then b else a), di (if 0 ≤ h ∧ 0 ≤ g then (if g > h then g else h) else -1)])) := by
  (refine zaj (Ty := Ty) zag Tryz.func92 rfl rfl rfl fun w0 S0 => ?_; simp only [argsF, List.zipIdx_cons, List.zipIdx_nil, List.map_cons, List.map_nil, Nat.zero_add])
  by_cases h1 : 0 ≤ h
  · by_cases h2 : 0 ≤ g
    · repeat (first | refine zac ?_ | refine zaa ?_ | ((first | refine zab ?_ | refine zae ?_); (first | change W _ _ _ _ _ | change EndQ _ _ _ _ _ _ )) | (refine isRL ?_; first | refine uMv ?_ | (refine isBin ?_; first | refine uBb true ?_ ) | (refine isLd ?_; first | refine uLb ?_ | refine uL1 ?_ ) | (refine isCl ?_; first | refine uP ?_) | (refine isFa ?_; first | refine uP ?_) | (refine isBd ?_; first | refine uBd ?_ ) | (refine isSt ?_; first | refine uSw ?_ | refine uS ?_ ) | refine uP ?_ | refine uBx ?_ | refine uN ?_ ) | refine wT fun _ => ?_ )
      exact zah (by rfl) (by rw [if_pos (show 0 ≤ h ∧ 0 ≤ g from ⟨h1, h2⟩)] <;> rfl)
    · repeat (first | refine zac ?_ | refine zaa ?_ | ((first | refine zab ?_ | refine zaf ?_ | refine zae ?_); (first | change W _ _ _ _ _ | change EndQ _ _ _ _ _ _ )) | (refine isRL ?_; first | refine uMv ?_ | (refine isBin ?_; first | refine uBb true ?_ | refine uBb false ?_ ) | (refine isLd ?_; first | refine uLb ?_ | refine uL1 ?_ ) | (refine isCl ?_; first | refine uP ?_) | (refine isFa ?_; first | refine uP ?_) | (refine isBd ?_; first | refine uBd ?_ ) | (refine isSt ?_; first | refine uSw ?_ ) | refine uP ?_ | refine uBx ?_ | refine uN ?_ ) | refine wF fun _ => ?_)
      exact zah (by rfl) (by rw [if_neg (show ¬ (0 ≤ h ∧ 0 ≤ g) from fun h => h2 h.2)] <;> rfl)
  · repeat (first | refine zac ?_ | refine zaa ?_ | ((first | refine zab ?_ | refine zaf ?_ | refine zae ?_); (first | change W _ _ _ _ _ | change EndQ _ _ _ _ _ _ )) | (refine isRL ?_; first | refine uMv ?_ | refine uO ?_ | (refine isBin ?_; first | refine uBb false ?_ ) | (refine isLd ?_; first | refine uLb ?_ | refine uL1 ?_ ) | (refine isCl ?_; first | refine uP ?_) | (refine isFa ?_; first | refine uP ?_) | (refine isBd ?_; first | refine uBd ?_ ) | (refine isSt ?_; first | refine uSw ?_ ) | refine uP ?_ | refine uBx ?_ | refine uN ?_ ) | refine wF fun _ => ?_)
    exact zah (by rfl) (by rw [if_neg (show ¬ (0 ≤ h ∧ 0 ≤ g) from fun h => h1 h.1)] <;> rfl)
theorem ziR (a h l m : Int) (h1 : -9223372036854775808 ≤ a * l) (h2 : a * l ≤ 100000000) (h3 : -9223372036854775808 ≤ h * m) (h4 : h * m ≤ 100000000) : CallsV Tryz.prog 90 [.dat [di a, di h], vI l, vI m] (.val (.dat [di (if 1000000 < a * l then 1000000 else a * l), di (if 0 ≤ h ∧ 0 ≤ m then (if 1000000 < h * m then 1000000 else h * m) else -1)])) := by
  (refine zaj (Ty := Ty) zag Tryz.func90 rfl rfl rfl fun w0 S0 => ?_; simp only [argsF, List.zipIdx_cons, List.zipIdx_nil, List.map_cons, List.map_nil, Nat.zero_add])
  by_cases h1 : 0 ≤ h
  · by_cases h2 : 0 ≤ m
    · repeat (first | refine zac ?_ | refine zaa ?_ | ((first | refine zab ?_ | refine zae ?_); (first | change W _ _ _ _ _ | change EndQ _ _ _ _ _ _ )) | (refine isRL ?_; first | refine uMv ?_ | (refine isBin ?_; first | refine uIb ?_ | refine uBb true ?_ ) | (refine isLd ?_; first | refine uLb ?_ | refine uL1 ?_ ) | (refine isCl ?_; first | refine uP ?_) | (refine isFa ?_; first | refine uP ?_) | (refine isBd ?_; first | refine uBd ?_ ) | (refine isSt ?_; first | refine uSw ?_ | refine uS ?_ ) | refine uP ?_ | refine uBx ?_ | refine uN ?_ ) | refine wT fun _ => ?_ )
      exact zah (by rfl) (by rw [if_pos (show 0 ≤ h ∧ 0 ≤ m from ⟨h1, h2⟩)] <;> rfl)
    · repeat (first | refine zac ?_ | refine zaa ?_ | ((first | refine zab ?_ | refine zaf ?_ | refine zae ?_); (first | change W _ _ _ _ _ | change EndQ _ _ _ _ _ _ )) | (refine isRL ?_; first | refine uMv ?_ | (refine isBin ?_; first | refine uIb ?_ | refine uBb true ?_ | refine uBb false ?_ ) | (refine isLd ?_; first | refine uLb ?_ | refine uL1 ?_ ) | (refine isCl ?_; first | refine uP ?_) | (refine isFa ?_; first | refine uP ?_) | (refine isBd ?_; first | refine uBd ?_ ) | (refine isSt ?_; first | refine uSw ?_ ) | refine uP ?_ | refine uBx ?_ | refine uN ?_ ) | refine wF fun _ => ?_)
      exact zah (by rfl) (by rw [if_neg (show ¬ (0 ≤ h ∧ 0 ≤ m) from fun h => h2 h.2)] <;> rfl)
  · repeat (first | refine zac ?_ | refine zaa ?_ | ((first | refine zab ?_ | refine zaf ?_ | refine zae ?_); (first | change W _ _ _ _ _ | change EndQ _ _ _ _ _ _ )) | (refine isRL ?_; first | refine uMv ?_ | refine uO ?_ | (refine isBin ?_; first | refine uIb ?_ | refine uBb false ?_ ) | (refine isLd ?_; first | refine uLb ?_ | refine uL1 ?_ ) | (refine isCl ?_; first | refine uP ?_) | (refine isFa ?_; first | refine uP ?_) | (refine isBd ?_; first | refine uBd ?_ ) | (refine isSt ?_; first | refine uSw ?_ ) | refine uP ?_ | refine uBx ?_ | refine uN ?_ ) | refine wF fun _ => ?_)
    exact zah (by rfl) (by rw [if_neg (show ¬ (0 ≤ h ∧ 0 ≤ m) from fun h => h1 h.1)] <;> rfl)
theorem ziv {P : Program} {f : FuncId} {args : List VV} {s : Sp} {a b : Int} (h : CallsV P f args (.val (.dat [di a, di b]))) (h1 : a = s.low) (h2 : b = hiI s.high) : CallsV P f args (.val (.dat (encSp s))) := by subst h1; subst h2; exact h
theorem zgV {s : Sp} (h : OkS s) : -1 ≤ hiI s.high ∧ hiI s.high ≤ 1000000 := by
  unfold hiI
  split
  · rename_i a e; have := h.2 a e; omega
  · decide
theorem zm1 (s t : Sp) (hs : OkS s) (ht : OkS t) : CallsV Tryz.prog 91 [.dat (encSp s), .dat (encSp t)] (.val (.dat (encSp (andS s t)))) := by
  have := zlM s.low (hiI s.high) t.low (hiI t.high) (by have := hs.1; omega) (zgV hs) (by have := ht.1; omega) (zgV ht)
  refine ziv this ?_ ?_
  · exact zgn (by simp)
  · unfold andS hiI andH
    cases s.high <;> cases t.high <;> simp only
    · rfl
    · rfl
    · rfl
    · rw [if_pos (by omega)]; exact zgn (by simp)
theorem or_v (s t : Sp) : CallsV Tryz.prog 92 [.dat (encSp s), .dat (encSp t)] (.val (.dat (encSp (orS s t)))) := by
  have := zmb s.low (hiI s.high) t.low (hiI t.high)
  refine ziv this ?_ ?_
  · show _ = ((min s.low t.low : Nat) : Int)
    split <;> omega
  · unfold orS hiI orH
    cases s.high <;> cases t.high <;> simp only
    · rfl
    · rfl
    · rfl
    · rw [if_pos (by omega)]; exact zij _ _
theorem zlb (s : Sp) (hs : OkS s) (l m : Int) (hl : 0 ≤ l ∧ l ≤ 20) (hm : -1 ≤ m ∧ m ≤ 20) : CallsV Tryz.prog 90 [.dat (encSp s), vI l, vI m] (.val (.dat (encSp (timesS s l m)))) := by
  have e1 : (s.low : Int) * l = ((s.low * l.toNat : Nat) : Int) := by rw [Int.natCast_mul, Int.toNat_of_nonneg hl.1]
  have e2 : s.low * l.toNat ≤ 1000000 * 20 := Nat.mul_le_mul hs.1 (by omega)
  have hq : -20000000 ≤ hiI s.high * m ∧ hiI s.high * m ≤ 20000000 := by
    have := zgV hs
    generalize hiI s.high = x at this
    by_cases hx : x = -1
    · subst hx; omega
    · by_cases hm1 : m = -1
      · subst hm1; omega
      · have h0 : 0 ≤ x * m := Int.mul_nonneg (by omega) (by omega)
        have h1 : x * m ≤ 1000000 * 20 := Int.mul_le_mul this.2 hm.2 (by omega) (by omega)
        omega
  have := ziR s.low (hiI s.high) l m (by rw [e1]; omega) (by rw [e1]; omega) (by omega) (by omega)
  refine ziv this ?_ ?_
  · exact zgn e1
  · unfold timesS hiI
    cases s.high with
    | none => simp only [Option.map_none, ite_self]; rfl
    | some h =>
      by_cases hm0 : m < 0
      · simp only [if_pos hm0]; rw [if_neg (by omega)]
      · simp only [if_neg hm0, Option.map_some]
        rw [if_pos (by omega)]
        exact zgn (by rw [Int.natCast_mul, Int.toNat_of_nonneg (by omega)])
end Go.Proofs.YtjhkehloipmjfaaGreat
namespace Go.Proofs.YtjhkehloipmjfaaGreat
open Go.RowKit
theorem zdt {g : Sp → Sp → Sp} {l : List Pt} {k : Nat} {q : Pt} {b : Sp} (hq : l[k]? = some q) : ((l.take (k + 1)).map lenP).foldl g b = g (((l.take k).map lenP).foldl g b) (lenP q) := by
  rw [List.take_add_one, hq, Option.toList_some, List.map_append, List.foldl_append]; rfl
theorem zhk {g : Sp → Sp → Sp} (hg : ∀ s t, OkS s → OkS t → OkS (g s t)) : ∀ (l : List Pt) (b : Sp), OkS b → OkS ((l.map lenP).foldl g b)
  | [], _, h => h
  | x :: l, _, h => zhk hg l _ (hg _ _ h (zbg x))
theorem zf4 : ∀ p : Pt, rightP p = true → CallsV Tryz.prog 63 [.dat (encP p)] (.val (.dat (encSp (lenP p)))) := Pt.ind fun p ih h => by
  have hr := za3 h
  have hlm : (p.kids.map encP).length = p.kids.length := List.length_map _
  (refine zaj (Ty := Ty) zag Tryz.func63 rfl rfl rfl fun w0 S0 => ?_; simp only [argsF, List.zipIdx_cons, List.zipIdx_nil, List.map_cons, List.map_nil, Nat.zero_add])
  by_cases k1 : p.kind = 1
  · repeat (first | refine zac ?_ | refine zaa ?_ | ((first | refine zab ?_ | refine zae ?_ ); (first | change W _ _ _ _ _ | skip)) | (refine isRL ?_; first | refine uAs ?_ | (refine isBin ?_; first | refine uBb true ?_ ) | (refine isLd ?_; first | refine uL1 ?_ ) | (refine isFa ?_; first | refine uP ?_) | (refine isBd ?_; first | refine uBd ?_ ) | (refine isSt ?_; first | refine uSw ?_ ) | refine uBx ?_ | refine uN ?_) | refine zad ?_ | refine wT fun _ => ?_ )
    exact zb4 rfl rfl rfl rfl rfl rfl (by rw [zcp, if_pos k1]; rfl)
  by_cases k2 : p.kind = 2
  · repeat (first | refine zac ?_ | refine zaa ?_ | ((first | refine zab ?_ | refine zae ?_ ); (first | change W _ _ _ _ _ | skip)) | (refine isRL ?_; first | refine uAs ?_ | (refine isBin ?_; first | refine uBb true ?_ | refine uBb false ?_ ) | (refine isLd ?_; first | refine uL1 ?_ ) | (refine isFa ?_; first | refine uP ?_) | (refine isBd ?_; first | refine uBd ?_ ) | (refine isSt ?_; first | refine uSw ?_ ) | refine uBx ?_ | refine uN ?_) | refine zad ?_ | refine wT fun _ => ?_ | refine wF fun _ => ?_ )
    exact zb4 rfl rfl rfl rfl rfl rfl (by rw [zcp, if_neg k1, if_pos k2]; rfl)
  by_cases k5 : p.kind = 5
  · obtain ⟨⟨k, hk, hkr⟩, h1, h2, h3⟩ := za6 h k5
    have hQ := ih k (by rw [hk]; exact List.mem_cons_self) hkr
    have hT := zlb (lenP k) (zbg k) p.min p.max ⟨h1, h2⟩ (by omega)
    have hk0 : (p.kids.map encP)[Int.toNat 0]? = some (encP k) := by rw [hk]; rfl
    repeat (first | refine zac ?_ | refine zaa ?_ | ((first | refine zab ?_ | refine zae ?_ | refine mN ?_); (first | change W _ _ _ _ _ | skip)) | (refine isRL ?_; first | refine uAs ?_ | (refine isBin ?_; first | refine uBb true ?_ | refine uBb false ?_ ) | (refine isLd ?_; first | refine uL1 ?_ ) | (refine isFa ?_; first | refine uP ?_) | (refine isSt ?_; first | refine uSw ?_ ) | refine uBx ?_ | refine uN ?_) | refine zad ?_ | refine wT fun _ => ?_ | refine wF fun _ => ?_ | refine uAnyL ?_ | (refine isD ?_; first | (refine imLd ?_; first | refine mLp ?_ | refine mL1 ?_ ) | (refine imCl ?_; first | refine mC (hQ) ?_ | refine mC (hT) ?_ ) | (refine imFa ?_; first | refine mP ?_) | refine mX ?_ ))
    exact zb4 rfl rfl rfl rfl rfl rfl (by rw [zca k5 hk])
  have k34 : p.kind = 3 ∨ p.kind = 4 := by have := zbF h; omega
  obtain ⟨hne, _, _⟩ := zb0 h k34
  obtain ⟨q0, rest, hks⟩ : ∃ q0 rest, p.kids = q0 :: rest := by
    cases hc : p.kids with
    | nil => exact absurd hc hne
    | cons a b => exact ⟨a, b, rfl⟩
  have hQ0 := ih q0 (by rw [hks]; exact List.mem_cons_self) (hr q0 (by rw [hks]; exact List.mem_cons_self))
  have hk0 : (p.kids.map encP)[Int.toNat 0]? = some (encP q0) := by rw [hks]; rfl
  have hlen : p.kids.length = rest.length + 1 := by rw [hks]; rfl
  have hdrop : p.kids.drop (Int.toNat 1) = rest := by rw [hks]; rfl
  rcases k34 with k3 | k4
  · repeat (first | refine zac ?_ | refine zaa ?_ | ((first | refine zab ?_ | refine zaf ?_ ); (first | change W _ _ _ _ _ )) | (refine isRL ?_; first | refine uMv ?_ | refine uAs ?_ | (refine isBin ?_; first | refine uBb false ?_ ) | (refine isLd ?_; first | refine uLp ?_ | refine uL1 ?_ ) | (refine isCl ?_; first | refine uC (hQ0) ?_ | refine uP ?_) | (refine isFa ?_; first | refine uP ?_) | (refine isSl ?_; first | refine uHd ?_ ) | (refine isSt ?_; first | refine uSw ?_ ) | refine uX ?_ | refine uBx ?_ | refine uN ?_) | refine zad ?_ | refine wF fun _ => ?_ )
    rw [hdrop]
    refine zbp (t := 37) rfl rfl fun hlim => ?_
    have hlm2 : (rest.map encP).length = rest.length := List.length_map _
    refine zaL (α := Nat) (fun k => [(2, .one (.po 2 0)), (3, .one (.fn 91 [])), (4, .one (.po 4 0)), (37, vL (rest.map encP)), (38, vI ((rest.map encP).length : Int)), (39, vI k)]) (fun k => [(2, .box 127 [di 0, di 0]), (4, .box 127 (encSp (((rest.take k).map lenP).foldl andS (lenP q0))))]) (fun k => k ≤ rest.length) (fun k => rest.length - k) 0 (Nat.zero_le _) subA subA ?_
    intro k hk
    by_cases hlt : k < rest.length
    · obtain ⟨q, hq⟩ : ∃ q, rest[k]? = some q := ⟨_, List.getElem?_eq_getElem hlt⟩
      have hmem : q ∈ p.kids := by rw [hks]; exact List.mem_cons_of_mem _ (List.mem_of_getElem? hq)
      have hQ := ih q hmem (hr q hmem)
      have hA := zm1 (((rest.take k).map lenP).foldl andS (lenP q0)) (lenP q) (zhk (fun s t _ _ => zea s t) _ _ (zbg q0)) (zbg q)
      have hnx := zdt (g := andS) (b := lenP q0) hq
      repeat (first | refine zac ?_ | refine zaa ?_ | ((first | refine zab ?_ | refine zaf ?_ | refine mN ?_); (first | change W _ _ _ _ _ | change Exists _ | skip)) | (refine isRL ?_; first | refine uMv ?_ | (refine isBin ?_; first | refine uIb ?_ | refine uBb true ?_ ) | (refine isLd ?_; first | refine uLp ?_ ) | (refine isSt ?_; first | refine uSw ?_ ) | refine uX ?_ | refine uN ?_) | refine zad ?_ | refine wT fun _ => ?_ | refine uAnyL ?_ | (refine isD ?_; first | refine mMv ?_ | (refine imLd ?_; first | refine mLb ?_ ) | (refine imCl ?_; first | refine mC (hQ) ?_ | refine mDc (hA) ?_ ) ))
      rw [← hnx]
      exact ⟨k + 1, by omega, hlt, subA, subA⟩
    · have hkl : k = rest.length := by omega
      subst hkl
      rw [List.take_length]
      repeat (first | refine zac ?_ | refine zaa ?_ | ((first | refine zab ?_ | refine zaD ?_ | refine zae ?_ ); (first | change W _ _ _ _ _ | change EndQ _ _ _ _ _ _ )) | (refine isRL ?_; first | (refine isBin ?_; first | refine uBb false ?_ ) | (refine isLd ?_; first | refine uLb ?_ ) | (refine isSt ?_; first | refine uSw ?_ ) ) | refine wF fun _ => ?_ )
      exact zb4 rfl rfl rfl rfl rfl rfl (by rw [zeq k3, hks, List.map_cons, zbD _ (zbg q0), zcH _ _ (zbg q0)])
  · repeat (first | refine zac ?_ | refine zaa ?_ | ((first | refine zab ?_ | refine zaf ?_ ); (first | change W _ _ _ _ _ )) | (refine isRL ?_; first | refine uMv ?_ | refine uAs ?_ | (refine isBin ?_; first | refine uBb true ?_ | refine uBb false ?_ ) | (refine isLd ?_; first | refine uLp ?_ | refine uL1 ?_ ) | (refine isCl ?_; first | refine uC (hQ0) ?_ | refine uP ?_) | (refine isFa ?_; first | refine uP ?_) | (refine isSl ?_; first | refine uHd ?_ ) | (refine isSt ?_; first | refine uSw ?_ ) | refine uX ?_ | refine uBx ?_ | refine uN ?_) | refine zad ?_ | refine wT fun _ => ?_ | refine wF fun _ => ?_ )
    rw [hdrop]
    refine zbp (t := 37) rfl rfl fun hlim => ?_
    have hlm2 : (rest.map encP).length = rest.length := List.length_map _
    refine zaL (α := Nat) (fun k => [(2, .one (.po 2 0)), (3, .one (.fn 92 [])), (4, .one (.po 4 0)), (37, vL (rest.map encP)), (38, vI ((rest.map encP).length : Int)), (39, vI k)]) (fun k => [(2, .box 127 [di 0, di 0]), (4, .box 127 (encSp (((rest.take k).map lenP).foldl orS (lenP q0))))]) (fun k => k ≤ rest.length) (fun k => rest.length - k) 0 (Nat.zero_le _) subA subA ?_
    intro k hk
    by_cases hlt : k < rest.length
    · obtain ⟨q, hq⟩ : ∃ q, rest[k]? = some q := ⟨_, List.getElem?_eq_getElem hlt⟩
      have hmem : q ∈ p.kids := by rw [hks]; exact List.mem_cons_of_mem _ (List.mem_of_getElem? hq)
      have hQ := ih q hmem (hr q hmem)
      have hA := or_v (((rest.take k).map lenP).foldl orS (lenP q0)) (lenP q)
      have hnx := zdt (g := orS) (b := lenP q0) hq
      repeat (first | refine zac ?_ | refine zaa ?_ | ((first | refine zab ?_ | refine zaf ?_ | refine mN ?_); (first | change W _ _ _ _ _ | change Exists _ | skip)) | (refine isRL ?_; first | refine uMv ?_ | (refine isBin ?_; first | refine uIb ?_ | refine uBb true ?_ ) | (refine isLd ?_; first | refine uLp ?_ ) | (refine isSt ?_; first | refine uSw ?_ ) | refine uX ?_ | refine uN ?_) | refine zad ?_ | refine wT fun _ => ?_ | refine uAnyL ?_ | (refine isD ?_; first | refine mMv ?_ | (refine imLd ?_; first | refine mLb ?_ ) | (refine imCl ?_; first | refine mC (hQ) ?_ | refine mDc (hA) ?_ ) ))
      rw [← hnx]
      exact ⟨k + 1, by omega, hlt, subA, subA⟩
    · have hkl : k = rest.length := by omega
      subst hkl
      rw [List.take_length]
      repeat (first | refine zac ?_ | refine zaa ?_ | ((first | refine zab ?_ | refine zaD ?_ | refine zae ?_ ); (first | change W _ _ _ _ _ | change EndQ _ _ _ _ _ _ )) | (refine isRL ?_; first | (refine isBin ?_; first | refine uBb false ?_ ) | (refine isLd ?_; first | refine uLb ?_ ) | (refine isSt ?_; first | refine uSw ?_ ) ) | refine wF fun _ => ?_ )
      exact zb4 rfl rfl rfl rfl rfl rfl (by rw [zep k4, hks]; rfl)
end Go.Proofs.YtjhkehloipmjfaaGreat
