/- Floats and words, as values. -/
import Derived.Test.YtjhkehloipmjfaaGreatWE
import Derived.Test.YtjhkehloipmjfaaGreatVD
import Derived.Test.YtjhkehloipmjfaaGreatMB
set_option maxRecDepth 100000
namespace Go.Proofs.YtjhkehloipmjfaaGreat
abbrev vF (f : Nat) : VV := .one (.d (.v (.float .f64 f)))
abbrev vUE (n : Int) : VV := .one (.d (.v (.int .u64 n)))
end Go.Proofs.YtjhkehloipmjfaaGreat
namespace Go.Proofs.YtjhkehloipmjfaaGreat
open Go.RowKit
theorem zkX (x : Int) (c : Nat) (hc : c < 9223372036854775808) : 0 ≤ IntKind.i64.wrap (IntKind.u64.wrap ((BitVec.ofInt IntKind.u64.bits x &&& BitVec.ofInt IntKind.u64.bits (c : Int)).toNat : Nat)) ∧ IntKind.i64.wrap (IntKind.u64.wrap ((BitVec.ofInt IntKind.u64.bits x &&& BitVec.ofInt IntKind.u64.bits (c : Int)).toNat : Nat)) ≤ c := by
  have hb : (BitVec.ofInt IntKind.u64.bits x &&& BitVec.ofInt IntKind.u64.bits (c : Int)).toNat ≤ c := by
    rw [BitVec.toNat_and]
    have : (BitVec.ofInt IntKind.u64.bits (c : Int)).toNat = c := by
      rw [BitVec.ofInt_natCast, BitVec.toNat_ofNat]
      exact Nat.mod_eq_of_lt (Nat.lt_of_lt_of_le hc (by decide))
    rw [this]
    exact Nat.and_le_right
  generalize (BitVec.ofInt IntKind.u64.bits x &&& BitVec.ofInt IntKind.u64.bits (c : Int)).toNat = z at hb
  rw [IntKind.wrap_u64, IntWalk.i64_in _ (by omega)]
  omega
theorem zes (f : Nat) : ∃ (a : Bool) (b c : Int), CallsV Tryz.prog 202 [vF f] (.val (.tup [vB a, vI b, vI c])) ∧ (0 ≤ b ∧ b ≤ 2047) ∧ (0 ≤ c ∧ c ≤ 4503599627370495) := by
  refine ⟨?a, ?b, ?c, ?g, ?h1, ?h2⟩
  case g =>
    have hB := zbd f
    (refine zaj (Ty := Ty) zag Tryz.func202 rfl rfl rfl fun w0 S0 => ?_; simp only [argsF, List.zipIdx_cons, List.zipIdx_nil, List.map_cons, List.map_nil, Nat.zero_add])
    repeat (first | refine zac ?_ | refine zaa ?_ | ((first | refine zab ?_ | refine zae ?_); (first | change W _ _ _ _ _ | change EndQ _ _ _ _ _ _ )) | (refine isRL ?_; first | refine uMv ?_ | refine uAs ?_ | (refine isBin ?_; first | refine uP ?_) | (refine isCl ?_; first | refine uE (hB) ?_ ) | refine uP ?_))
    exact zah (by rfl) rfl
  case h1 => exact zkX _ 2047 (by decide)
  case h2 => exact zkX _ 4503599627370495 (by decide)
noncomputable def pA (f : Nat) : Bool := Classical.choose (zes f)
noncomputable def pB (f : Nat) : Int := Classical.choose (Classical.choose_spec (zes f))
noncomputable def pC (f : Nat) : Int := Classical.choose (Classical.choose_spec (Classical.choose_spec (zes f)))
theorem zhM (f : Nat) : CallsV Tryz.prog 202 [vF f] (.val (.tup [vB (pA f), vI (pB f), vI (pC f)])) ∧ (0 ≤ pB f ∧ pB f ≤ 2047) ∧ (0 ≤ pC f ∧ pC f ≤ 4503599627370495) := Classical.choose_spec (Classical.choose_spec (Classical.choose_spec (zes f)))
theorem zlN (f : Nat) : CallsV Tryz.prog 202 [vF f] (.val (.tup [vB (pA f), vI (pB f), vI (pC f)])) := (zhM f).1
noncomputable def nanB (f : Nat) : Bool := pB f == 2047 && pC f != 0
noncomputable def bitsF (f : Nat) : Int := if nanB f = true then 9221120237041090561 else (f : Int)
theorem zef (f : Nat) : CallsV Tryz.prog 189 [vF f] (.val (vB (nanB f))) := by
  have h1 := zlN f
  have hd : nanB f = (pB f == 2047 && pC f != 0) := rfl
  rw [hd]
  generalize pA f = a at h1
  generalize pB f = b at *
  generalize pC f = c at *
  (refine zaj (Ty := Ty) zag Tryz.func189 rfl rfl rfl fun w0 S0 => ?_; simp only [argsF, List.zipIdx_cons, List.zipIdx_nil, List.map_cons, List.map_nil, Nat.zero_add])
  repeat' (first | refine zac ?_ | refine zaa ?_ | ((first | refine zab ?_ | refine zae ?_); (first | change W _ _ _ _ _ | change EndQ _ _ _ _ _ _ )) | (refine isRL ?_; first | refine uMv ?_ | refine uAs ?_ | refine uO ?_ | (refine isBin ?_; first | refine uP ?_) | (refine isCl ?_; first | refine uC (h1) ?_ ) | refine uP ?_ | ((first | refine uGsD ?_ ?_ ) <;> intro hb)))
  all_goals exact zah (by rfl) (zas (by simp [*]))
theorem zcZ (f : Nat) : CallsV Tryz.prog 178 [vF f] (.val (vUE (bitsF f))) := by
  have h1 := zef f
  have hB := zbd f
  have hd : bitsF f = if nanB f = true then 9221120237041090561 else (f : Int) := rfl
  rw [hd]
  generalize nanB f = b at *
  cases b
  all_goals
    (refine zaj (Ty := Ty) zag Tryz.func178 rfl rfl rfl fun w0 S0 => ?_; simp only [argsF, List.zipIdx_cons, List.zipIdx_nil, List.map_cons, List.map_nil, Nat.zero_add])
    repeat' (first | refine zac ?_ | refine zaa ?_ | ((first | refine zab ?_ | refine zaf ?_ | refine zae ?_); (first | change W _ _ _ _ _ | change EndQ _ _ _ _ _ _ | skip)) | (refine isRL ?_; first | refine uMv ?_ | refine uAs ?_ | (refine isCl ?_; first | refine uC (h1) ?_ | refine uE (hB) ?_ ) ) | refine wT fun _ => ?_ | refine wF fun _ => ?_ )
    all_goals exact zah (by rfl) rfl
noncomputable def right02 (v : Val) : Bool :=
  if v.kind = 0 then v.n == 0 && ((v.f : Int) == 0 && (v.s.toList == ByteArray.toList ⟨#[]⟩))
  else if v.kind = 1 then (v.n == 0 || v.n == 1) && ((v.f : Int) == 0 && (v.s.toList == ByteArray.toList ⟨#[]⟩))
  else if v.kind = 2 then (v.f : Int) == 0 && (v.s.toList == ByteArray.toList ⟨#[]⟩)
  else if v.kind = 3 then v.n == 0 && ((v.s.toList == ByteArray.toList ⟨#[]⟩) && bitsF v.f == (v.f : Int))
  else if v.kind = 4 then v.n == 0 && (v.f : Int) == 0
  else false
theorem zcF (v : Val) : CallsV Tryz.prog 171 [.dat (encV v)] (.val (vB (right02 v))) := by
  have h1 := zcZ v.f
  have hB := zbd v.f
  unfold right02
  generalize bitsF v.f = x at *
  obtain ⟨z, hz⟩ : ∃ z : Int, (v.f : Int) = z := ⟨_, rfl⟩
  rw [hz] at hB ⊢
  clear hz
  by_cases k0 : v.kind = 0
  · rw [if_pos k0]
    (refine zaj (Ty := Ty) zag Tryz.func171 rfl rfl rfl fun w0 S0 => ?_; simp only [argsF, List.zipIdx_cons, List.zipIdx_nil, List.map_cons, List.map_nil, Nat.zero_add])
    repeat' (first | refine zac ?_ | refine zaa ?_ | ((first | refine zab ?_ | refine zae ?_ ); (first | change W _ _ _ _ _ | skip)) | (refine isRL ?_; first | refine uMv ?_ | refine uAs ?_ | refine uO ?_ | (refine isBin ?_; first | refine uBb true ?_ | refine uP ?_) | (refine isLd ?_; first | refine uL1 ?_ ) | (refine isCl ?_; first | refine uE (hB) ?_ ) | (refine isFa ?_; first | refine uP ?_) | refine uP ?_ | refine uBx ?_ | ((first | refine uGsD ?_ ?_ ) <;> intro hb)) | refine zad ?_ | refine wT fun _ => ?_ )
    all_goals exact zah (by rfl) (zas (by simp [*]))
  rw [if_neg k0]
  by_cases k1 : v.kind = 1
  · rw [if_pos k1]
    (refine zaj (Ty := Ty) zag Tryz.func171 rfl rfl rfl fun w0 S0 => ?_; simp only [argsF, List.zipIdx_cons, List.zipIdx_nil, List.map_cons, List.map_nil, Nat.zero_add])
    repeat' (first | refine zac ?_ | refine zaa ?_ | ((first | refine zab ?_ | refine zae ?_ ); (first | change W _ _ _ _ _ | skip)) | (refine isRL ?_; first | refine uMv ?_ | refine uAs ?_ | refine uO ?_ | (refine isBin ?_; first | refine uBb true ?_ | refine uBb false ?_ | refine uP ?_) | (refine isLd ?_; first | refine uL1 ?_ ) | (refine isCl ?_; first | refine uE (hB) ?_ ) | (refine isFa ?_; first | refine uP ?_) | refine uP ?_ | refine uBx ?_ | ((first | refine uGsD ?_ ?_ ) <;> intro hb)) | refine zad ?_ | refine wT fun _ => ?_ | refine wF fun _ => ?_ )
    all_goals exact zah (by rfl) (zas (by simp [*]))
  rw [if_neg k1]
  by_cases k2 : v.kind = 2
  · rw [if_pos k2]
    (refine zaj (Ty := Ty) zag Tryz.func171 rfl rfl rfl fun w0 S0 => ?_; simp only [argsF, List.zipIdx_cons, List.zipIdx_nil, List.map_cons, List.map_nil, Nat.zero_add])
    repeat' (first | refine zac ?_ | refine zaa ?_ | ((first | refine zab ?_ | refine zae ?_ ); (first | change W _ _ _ _ _ | skip)) | (refine isRL ?_; first | refine uMv ?_ | refine uAs ?_ | refine uO ?_ | (refine isBin ?_; first | refine uBb true ?_ | refine uBb false ?_ | refine uP ?_) | (refine isLd ?_; first | refine uL1 ?_ ) | (refine isCl ?_; first | refine uE (hB) ?_ ) | (refine isFa ?_; first | refine uP ?_) | refine uP ?_ | refine uBx ?_ | ((first | refine uGsD ?_ ?_ ) <;> intro hb)) | refine zad ?_ | refine wT fun _ => ?_ | refine wF fun _ => ?_ )
    all_goals exact zah (by rfl) (zas (by simp [*]))
  rw [if_neg k2]
  by_cases k3 : v.kind = 3
  · rw [if_pos k3]
    cases c1 : v.n == 0 <;> cases c2 : (v.s.toList == ByteArray.toList ⟨#[]⟩)
    all_goals
      (refine zaj (Ty := Ty) zag Tryz.func171 rfl rfl rfl fun w0 S0 => ?_; simp only [argsF, List.zipIdx_cons, List.zipIdx_nil, List.map_cons, List.map_nil, Nat.zero_add])
      repeat' (first | refine zac ?_ | refine zaa ?_ | ((first | refine zab ?_ | refine zae ?_ ); (first | change W _ _ _ _ _ | skip)) | (refine isRL ?_; first | refine uAs ?_ | (refine isBin ?_; first | refine uBb true ?_ | refine uBb false ?_ | refine uP ?_) | (refine isLd ?_; first | refine uL1 ?_ ) | (refine isCl ?_; first | refine uE (hB) ?_ ) | (refine isFa ?_; first | refine uP ?_) | refine uBx ?_ ) | refine zad ?_ | refine wT fun _ => ?_ | refine wF fun _ => ?_ | refine uAny ?_ | (refine isD ?_; first | refine mMv ?_ | refine mAs ?_ | refine mO ?_ | (refine imBin ?_; first | refine mBb true ?_ | refine mBb false ?_ | refine mP ?_) | (refine imLd ?_; first | refine mL1 ?_ ) | (refine imCl ?_; first | refine mC (h1) ?_ | refine mE (hB) ?_ ) | (refine imFa ?_; first | refine mP ?_) | refine mP ?_ ) )
      all_goals exact zah (by rfl) (zas (by simp [*]))
  rw [if_neg k3]
  by_cases k4 : v.kind = 4
  · rw [if_pos k4]
    (refine zaj (Ty := Ty) zag Tryz.func171 rfl rfl rfl fun w0 S0 => ?_; simp only [argsF, List.zipIdx_cons, List.zipIdx_nil, List.map_cons, List.map_nil, Nat.zero_add])
    repeat' (first | refine zac ?_ | refine zaa ?_ | ((first | refine zab ?_ | refine zae ?_ ); (first | change W _ _ _ _ _ | skip)) | (refine isRL ?_; first | refine uMv ?_ | refine uAs ?_ | refine uO ?_ | (refine isBin ?_; first | refine uBb true ?_ | refine uBb false ?_ | refine uP ?_) | (refine isLd ?_; first | refine uL1 ?_ ) | (refine isCl ?_; first | refine uE (hB) ?_ ) | (refine isFa ?_; first | refine uP ?_) | refine uP ?_ | refine uBx ?_ | ((first | refine uGsD ?_ ?_ ) <;> intro hb)) | refine zad ?_ | refine wT fun _ => ?_ | refine wF fun _ => ?_ )
    all_goals exact zah (by rfl) (zas (by simp [*]))
  rw [if_neg k4]
  (refine zaj (Ty := Ty) zag Tryz.func171 rfl rfl rfl fun w0 S0 => ?_; simp only [argsF, List.zipIdx_cons, List.zipIdx_nil, List.map_cons, List.map_nil, Nat.zero_add])
  repeat' (first | refine zac ?_ | refine zaa ?_ | ((first | refine zab ?_ | refine zaf ?_ | refine zae ?_ ); (first | change W _ _ _ _ _ | change EndQ _ _ _ _ _ _ )) | (refine isRL ?_; first | refine uAs ?_ | (refine isBin ?_; first | refine uBb false ?_ | refine uP ?_) | (refine isLd ?_; first | refine uL1 ?_ ) | (refine isCl ?_; first | refine uE (hB) ?_ ) | (refine isFa ?_; first | refine uP ?_) | refine uBx ?_ ) | refine zad ?_ | refine wF fun _ => ?_ )
  all_goals exact zah (by rfl) rfl
end Go.Proofs.YtjhkehloipmjfaaGreat
