/- The library's contracts on slices.Sort and slices.Compact of texts at this program: each is one application of a contract over any program; the layings in plain words. Printed by wip/tools/lays.sh. -/
import Derived.Shelf.SortM.Plain
import Derived.Shelf.SortM.SortNone
import Derived.Test.YtjhkehloipmjfaaWI
import Derived.Shelf.Slices.In.CompactS
import Derived.Sort.EveryDepth
import Derived.Test.YtjhkehloipmjfaaWM
import Derived.Test.YtjhkehloipmjfaaVC
import Derived.Test.YtjhkehloipmjfaaN0
namespace Go.Proofs.Ytjhkehloipmjfaa
open Go.RowKit Go.Sort Go.Shelf
def Try.sort80_ren : Go.Shelf.Ren := ⟨fun | 6 => 80 | 8 => 107 | 9 => 106 | 19 => 129 | 20 => 130 | 21 => 120 | 22 => 121 | 23 => 122 | 24 => 123 | 25 => 124 | 26 => 125 | 27 => 126 | 28 => 127 | 29 => 128 | 36 => 145 | 31 => 146 | 32 => 147 | 37 => 148 | 38 => 149 | 39 => 150 | 41 => 161 | n => n, fun | 27 => 41 | 29 => 9 | 3 => 3 | 32 => 162 | 26 => 41 | 0 => 0 | 44 => 185 | 46 => 95 | 4 => 4 | 36 => 178 | 35 => 177 | 41 => 173 | 5 => 5 | 9 => 9 | 53 => 200 | 57 => 204 | 63 => 208 | 64 => 70 | n => n, fun | n => n⟩
theorem Try.sort80 : Go.Proofs.SlLaysM.n6 Try.prog Try.sort80_ren := {
  mixed := by kernel_rfl
  f6 := ⟨Try.f80.name, by decide, Try.func80.trans (congrArg some (by kernel_rfl))⟩
  f8 := Try.func107.trans (congrArg some (by kernel_rfl))
  f9 := ⟨Try.f106.name, by decide, Try.func106.trans (congrArg some (by kernel_rfl))⟩
  f19 := Try.func129.trans (congrArg some (by kernel_rfl))
  f20 := Try.func130.trans (congrArg some (by kernel_rfl))
  f21 := ⟨Try.f120.name, by decide, Try.func120.trans (congrArg some (by kernel_rfl))⟩
  f22 := ⟨Try.f121.name, by decide, Try.func121.trans (congrArg some (by kernel_rfl))⟩
  f23 := ⟨Try.f122.name, by decide, Try.func122.trans (congrArg some (by kernel_rfl))⟩
  f24 := ⟨Try.f123.name, by decide, Try.func123.trans (congrArg some (by kernel_rfl))⟩
  f25 := ⟨Try.f124.name, by decide, Try.func124.trans (congrArg some (by kernel_rfl))⟩
  f26 := ⟨Try.f125.name, by decide, Try.func125.trans (congrArg some (by kernel_rfl))⟩
  f27 := ⟨Try.f126.name, by decide, Try.func126.trans (congrArg some (by kernel_rfl))⟩
  f28 := ⟨Try.f127.name, by decide, Try.func127.trans (congrArg some (by kernel_rfl))⟩
  f29 := ⟨Try.f128.name, by decide, Try.func128.trans (congrArg some (by kernel_rfl))⟩
  f31 := Try.func146.trans (congrArg some (by kernel_rfl))
  f32 := Try.func147.trans (congrArg some (by kernel_rfl))
  f36 := ⟨Try.f145.name, by decide, Try.func145.trans (congrArg some (by kernel_rfl))⟩
  f37 := ⟨Try.f148.name, by decide, Try.func148.trans (congrArg some (by kernel_rfl))⟩
  f38 := ⟨Try.f149.name, by decide, Try.func149.trans (congrArg some (by kernel_rfl))⟩
  f39 := ⟨Try.f150.name, by decide, Try.func150.trans (congrArg some (by kernel_rfl))⟩
  f41 := ⟨Try.f161.name, by decide, Try.func161.trans (congrArg some (by kernel_rfl))⟩
  t0 := Try.underlying0
  a0 := Try.isAgg0
  z0 := Try.sizeOf0
  v0 := Try.zeroValue0
  t3 := Try.underlying3
  a3 := Try.isAgg3
  z3 := Try.sizeOf3
  v3 := Try.zeroValue3
  t4 := Try.underlying4
  a4 := Try.isAgg4
  z4 := Try.sizeOf4
  v4 := Try.zeroValue4
  t5 := Try.underlying5
  a5 := Try.isAgg5
  z5 := Try.sizeOf5
  v5 := Try.zeroValue5
  t9 := Try.underlying9
  a9 := Try.isAgg9
  z9 := Try.sizeOf9
  v9 := Try.zeroValue9
  t26 := Try.underlying41
  a26 := Try.isAgg41
  z26 := Try.sizeOf41
  v26 := Try.zeroValue41
  t27 := Try.underlying41
  a27 := Try.isAgg41
  z27 := Try.sizeOf41
  v27 := Try.zeroValue41
  t29 := Try.underlying9
  a29 := Try.isAgg9
  z29 := Try.sizeOf9
  v29 := Try.zeroValue9
  t32 := Try.underlying162
  a32 := Try.isAgg162
  z32 := Try.sizeOf162
  v32 := Try.zeroValue162
  t35 := Try.underlying177
  a35 := Try.isAgg177
  z35 := Try.sizeOf177
  v35 := Try.zeroValue177
  t36 := Try.underlying178
  a36 := Try.isAgg178
  z36 := Try.sizeOf178
  v36 := Try.zeroValue178
  t41 := Try.underlying173
  a41 := Try.isAgg173
  z41 := Try.sizeOf173
  v41 := Try.zeroValue173
  t44 := Try.underlying185
  a44 := Try.isAgg185
  z44 := Try.sizeOf185
  v44 := Try.zeroValue185
  t46 := Try.underlying95
  a46 := Try.isAgg95
  z46 := Try.sizeOf95
  v46 := Try.zeroValue95
  t53 := Try.underlying200
  a53 := Try.isAgg200
  z53 := Try.sizeOf200
  v53 := Try.zeroValue200
  t57 := Try.underlying204
  a57 := Try.isAgg204
  z57 := Try.sizeOf204
  v57 := Try.zeroValue204
  t63 := Try.underlying208
  a63 := Try.isAgg208
  z63 := Try.sizeOf208
  v63 := Try.zeroValue208
  t64 := Try.underlying70
  a64 := Try.isAgg70
  z64 := Try.sizeOf70
  v64 := Try.zeroValue70 }
theorem sorts_v : SortsG Try.prog 80 := ⟨enters_of Try.func80 (by kernel_rfl) rfl, fun blk off cap ss W hH hblk hsz => AnyM.slices_Sort_string Try.sort80 blk off cap ss W hH hblk hsz, fun p cap W => AnyM.slices_Sort_string_none Try.sort80 p cap W⟩
end Go.Proofs.Ytjhkehloipmjfaa
namespace Go.Proofs.Ytjhkehloipmjfaa
open Go.RowKit Go.Sort Go.Shelf
def Try.compact50_ren : Go.Shelf.Ren := ⟨fun | 194 => 50 | n => n, fun | 31 => 41 | 9 => 9 | 3 => 3 | 4 => 4 | 0 => 0 | n => n, fun | n => n⟩
theorem Try.compact50 : Go.Proofs.Lays.n194 Try.prog Try.compact50_ren := {
  mixed := by kernel_rfl
  f194 := Try.func50.trans (congrArg some (by kernel_rfl))
  t0 := Try.underlying0
  a0 := Try.isAgg0
  z0 := Try.sizeOf0
  v0 := Try.zeroValue0
  t3 := Try.underlying3
  a3 := Try.isAgg3
  z3 := Try.sizeOf3
  v3 := Try.zeroValue3
  t4 := Try.underlying4
  a4 := Try.isAgg4
  z4 := Try.sizeOf4
  v4 := Try.zeroValue4
  t9 := Try.underlying9
  a9 := Try.isAgg9
  z9 := Try.sizeOf9
  v9 := Try.zeroValue9
  t31 := Try.underlying41
  a31 := Try.isAgg41
  z31 := Try.sizeOf41
  v31 := Try.zeroValue41 }
theorem comps_v : CompG Try.prog 50 := ⟨enters_of Try.func50 (by kernel_rfl) rfl, fun blk off cap zs w h1 h2 h3 => calls_of_every_depth fun D => AnyS.slices_Compact_string_in Try.compact50 D blk off cap zs w h1 h2 h3, fun p cap w => calls_of_every_depth fun D => AnyS.slices_Compact_string_empty_in Try.compact50 D p cap w⟩
end Go.Proofs.Ytjhkehloipmjfaa
/- Walks: lengths, by the program and by the document. -/
namespace Go.Proofs.Ytjhkehloipmjfaa
open Go.RowKit
def hiI : Option Nat → Int
  | some h => h
  | none => -1
def encSp (s : Sp) : List D := [.v (.int .i64 s.low), .v (.int .i64 (hiI s.high))]
theorem sat_i {z : Int} {n : Nat} (h : z = n) : (if (1000000 : Int) < z then (1000000 : Int) else z) = ((sat n : Nat) : Int) := by
  subst h; unfold sat; split <;> omega
abbrev di (n : Int) : D := .v (.int .i64 n)
set_option maxRecDepth 100000 in
theorem and_raw (a h b g : Int) (ha : 0 ≤ a ∧ a ≤ 1000000) (hh : -1 ≤ h ∧ h ≤ 1000000) (hb : 0 ≤ b ∧ b ≤ 1000000) (hg : -1 ≤ g ∧ g ≤ 1000000) : CallsV Try.prog 83 [.dat [di a, di h], .dat [di b, di g]] (.val (.dat [di (if 1000000 < a + b then 1000000 else a + b), di (if 0 ≤ h ∧ 0 ≤ g then (if 1000000 < h + g then 1000000 else h + g) else -1)])) := by
  (refine callsV_of_W (Ty := Ty) ty_ok Try.func83 rfl rfl rfl fun w0 S0 => ?_; simp only [argsF, List.zipIdx_cons, List.zipIdx_nil, List.map_cons, List.map_nil, Nat.zero_add])
  by_cases h1 : 0 ≤ h
  · by_cases h2 : 0 ≤ g
    · repeat (first | refine W_seq ?_ | refine W_region ?_ | (refine RL_nil ?_; (first | change W _ _ _ _ _ | change EndQ _ _ _ _ _ _ | change Exists _ | change EndG _ _ _ _ _ _ _ _ _ _ | change EndM _ _ _ _ _ _ _ | skip)) | (refine isRL ?_; first | refine uMv ?_ | refine uO ?_ | (refine isBin ?_; first | refine uIb ?_ | refine uCat ?_ | refine uBb true ?_ | refine uBb false ?_ | refine uP ?_ | refine uEq true ?_ | refine uEq false ?_) | (refine isLd ?_; first | refine uLp ?_ | refine uLb ?_ | refine uL1 ?_ | refine uL2 ?_ | refine uP ?_) | (refine isCl ?_; first | refine uP ?_) | (refine isFa ?_; first | refine uP ?_) | (refine isBd ?_; first | refine uBd ?_ | refine uP ?_) | (refine isSt ?_; first | refine uSw ?_ | refine uS ?_ | refine uSc ?_) | refine uP ?_ | refine uBx ?_ | refine uN ?_ | refine uON ?_) | refine W_cond true (by rfl) (fun _ => ?_) (fun h => by cases h) | refine W_cond false (by rfl) (fun h => by cases h) (fun _ => ?_) | (refine W_skip ?_; (first | change W _ _ _ _ _ | change EndQ _ _ _ _ _ _ | change Exists _ | change EndG _ _ _ _ _ _ _ _ _ _ | change EndM _ _ _ _ _ _ _ | skip)) | (refine W_ret ?_; (first | change W _ _ _ _ _ | change EndQ _ _ _ _ _ _ | change Exists _ | change EndG _ _ _ _ _ _ _ _ _ _ | change EndM _ _ _ _ _ _ _ | skip)))
      exact end_r (by rfl) (by rw [if_pos (show 0 ≤ h ∧ 0 ≤ g from ⟨h1, h2⟩)] <;> rfl)
    · repeat (first | refine W_seq ?_ | refine W_region ?_ | (refine RL_nil ?_; (first | change W _ _ _ _ _ | change EndQ _ _ _ _ _ _ | change Exists _ | change EndG _ _ _ _ _ _ _ _ _ _ | change EndM _ _ _ _ _ _ _ | skip)) | (refine isRL ?_; first | refine uMv ?_ | refine uO ?_ | (refine isBin ?_; first | refine uIb ?_ | refine uCat ?_ | refine uBb true ?_ | refine uBb false ?_ | refine uP ?_ | refine uEq true ?_ | refine uEq false ?_) | (refine isLd ?_; first | refine uLp ?_ | refine uLb ?_ | refine uL1 ?_ | refine uL2 ?_ | refine uP ?_) | (refine isCl ?_; first | refine uP ?_) | (refine isFa ?_; first | refine uP ?_) | (refine isBd ?_; first | refine uBd ?_ | refine uP ?_) | (refine isSt ?_; first | refine uSw ?_ | refine uS ?_ | refine uSc ?_) | refine uP ?_ | refine uBx ?_ | refine uN ?_ | refine uON ?_) | refine W_cond true (by rfl) (fun _ => ?_) (fun h => by cases h) | refine W_cond false (by rfl) (fun h => by cases h) (fun _ => ?_) | (refine W_skip ?_; (first | change W _ _ _ _ _ | change EndQ _ _ _ _ _ _ | change Exists _ | change EndG _ _ _ _ _ _ _ _ _ _ | change EndM _ _ _ _ _ _ _ | skip)) | (refine W_ret ?_; (first | change W _ _ _ _ _ | change EndQ _ _ _ _ _ _ | change Exists _ | change EndG _ _ _ _ _ _ _ _ _ _ | change EndM _ _ _ _ _ _ _ | skip)))
      exact end_r (by rfl) (by rw [if_neg (show ¬ (0 ≤ h ∧ 0 ≤ g) from fun h => h2 h.2)] <;> rfl)
  · repeat (first | refine W_seq ?_ | refine W_region ?_ | (refine RL_nil ?_; (first | change W _ _ _ _ _ | change EndQ _ _ _ _ _ _ | change Exists _ | change EndG _ _ _ _ _ _ _ _ _ _ | change EndM _ _ _ _ _ _ _ | skip)) | (refine isRL ?_; first | refine uMv ?_ | refine uO ?_ | (refine isBin ?_; first | refine uIb ?_ | refine uCat ?_ | refine uBb true ?_ | refine uBb false ?_ | refine uP ?_ | refine uEq true ?_ | refine uEq false ?_) | (refine isLd ?_; first | refine uLp ?_ | refine uLb ?_ | refine uL1 ?_ | refine uL2 ?_ | refine uP ?_) | (refine isCl ?_; first | refine uP ?_) | (refine isFa ?_; first | refine uP ?_) | (refine isBd ?_; first | refine uBd ?_ | refine uP ?_) | (refine isSt ?_; first | refine uSw ?_ | refine uS ?_ | refine uSc ?_) | refine uP ?_ | refine uBx ?_ | refine uN ?_ | refine uON ?_) | refine W_cond true (by rfl) (fun _ => ?_) (fun h => by cases h) | refine W_cond false (by rfl) (fun h => by cases h) (fun _ => ?_) | (refine W_skip ?_; (first | change W _ _ _ _ _ | change EndQ _ _ _ _ _ _ | change Exists _ | change EndG _ _ _ _ _ _ _ _ _ _ | change EndM _ _ _ _ _ _ _ | skip)) | (refine W_ret ?_; (first | change W _ _ _ _ _ | change EndQ _ _ _ _ _ _ | change Exists _ | change EndG _ _ _ _ _ _ _ _ _ _ | change EndM _ _ _ _ _ _ _ | skip)))
    exact end_r (by rfl) (by rw [if_neg (show ¬ (0 ≤ h ∧ 0 ≤ g) from fun h => h1 h.1)] <;> rfl)
set_option maxRecDepth 100000 in
theorem or_raw (a h b g : Int) : CallsV Try.prog 84 [.dat [di a, di h], .dat [di b, di g]] (.val (.dat [di (if b < a then b else a), di (if 0 ≤ h ∧ 0 ≤ g then (if g > h then g else h) else -1)])) := by
  (refine callsV_of_W (Ty := Ty) ty_ok Try.func84 rfl rfl rfl fun w0 S0 => ?_; simp only [argsF, List.zipIdx_cons, List.zipIdx_nil, List.map_cons, List.map_nil, Nat.zero_add])
  by_cases h1 : 0 ≤ h
  · by_cases h2 : 0 ≤ g
    · repeat (first | refine W_seq ?_ | refine W_region ?_ | (refine RL_nil ?_; (first | change W _ _ _ _ _ | change EndQ _ _ _ _ _ _ | change Exists _ | change EndG _ _ _ _ _ _ _ _ _ _ | change EndM _ _ _ _ _ _ _ | skip)) | (refine isRL ?_; first | refine uMv ?_ | refine uO ?_ | (refine isBin ?_; first | refine uBb true ?_ | refine uBb false ?_ | refine uP ?_ | refine uEq true ?_ | refine uEq false ?_) | (refine isLd ?_; first | refine uLp ?_ | refine uLb ?_ | refine uL1 ?_ | refine uL2 ?_ | refine uP ?_) | (refine isCl ?_; first | refine uP ?_) | (refine isFa ?_; first | refine uP ?_) | (refine isBd ?_; first | refine uBd ?_ | refine uP ?_) | (refine isSt ?_; first | refine uSw ?_ | refine uS ?_ | refine uSc ?_) | refine uP ?_ | refine uBx ?_ | refine uN ?_ | refine uON ?_) | refine W_cond true (by rfl) (fun _ => ?_) (fun h => by cases h) | refine W_cond false (by rfl) (fun h => by cases h) (fun _ => ?_) | (refine W_skip ?_; (first | change W _ _ _ _ _ | change EndQ _ _ _ _ _ _ | change Exists _ | change EndG _ _ _ _ _ _ _ _ _ _ | change EndM _ _ _ _ _ _ _ | skip)) | (refine W_ret ?_; (first | change W _ _ _ _ _ | change EndQ _ _ _ _ _ _ | change Exists _ | change EndG _ _ _ _ _ _ _ _ _ _ | change EndM _ _ _ _ _ _ _ | skip)))
      exact end_r (by rfl) (by rw [if_pos (show 0 ≤ h ∧ 0 ≤ g from ⟨h1, h2⟩)] <;> rfl)
    · repeat (first | refine W_seq ?_ | refine W_region ?_ | (refine RL_nil ?_; (first | change W _ _ _ _ _ | change EndQ _ _ _ _ _ _ | change Exists _ | change EndG _ _ _ _ _ _ _ _ _ _ | change EndM _ _ _ _ _ _ _ | skip)) | (refine isRL ?_; first | refine uMv ?_ | refine uO ?_ | (refine isBin ?_; first | refine uBb true ?_ | refine uBb false ?_ | refine uP ?_ | refine uEq true ?_ | refine uEq false ?_) | (refine isLd ?_; first | refine uLp ?_ | refine uLb ?_ | refine uL1 ?_ | refine uL2 ?_ | refine uP ?_) | (refine isCl ?_; first | refine uP ?_) | (refine isFa ?_; first | refine uP ?_) | (refine isBd ?_; first | refine uBd ?_ | refine uP ?_) | (refine isSt ?_; first | refine uSw ?_ | refine uS ?_ | refine uSc ?_) | refine uP ?_ | refine uBx ?_ | refine uN ?_ | refine uON ?_) | refine W_cond true (by rfl) (fun _ => ?_) (fun h => by cases h) | refine W_cond false (by rfl) (fun h => by cases h) (fun _ => ?_) | (refine W_skip ?_; (first | change W _ _ _ _ _ | change EndQ _ _ _ _ _ _ | change Exists _ | change EndG _ _ _ _ _ _ _ _ _ _ | change EndM _ _ _ _ _ _ _ | skip)) | (refine W_ret ?_; (first | change W _ _ _ _ _ | change EndQ _ _ _ _ _ _ | change Exists _ | change EndG _ _ _ _ _ _ _ _ _ _ | change EndM _ _ _ _ _ _ _ | skip)))
      exact end_r (by rfl) (by rw [if_neg (show ¬ (0 ≤ h ∧ 0 ≤ g) from fun h => h2 h.2)] <;> rfl)
  · repeat (first | refine W_seq ?_ | refine W_region ?_ | (refine RL_nil ?_; (first | change W _ _ _ _ _ | change EndQ _ _ _ _ _ _ | change Exists _ | change EndG _ _ _ _ _ _ _ _ _ _ | change EndM _ _ _ _ _ _ _ | skip)) | (refine isRL ?_; first | refine uMv ?_ | refine uO ?_ | (refine isBin ?_; first | refine uBb true ?_ | refine uBb false ?_ | refine uP ?_ | refine uEq true ?_ | refine uEq false ?_) | (refine isLd ?_; first | refine uLp ?_ | refine uLb ?_ | refine uL1 ?_ | refine uL2 ?_ | refine uP ?_) | (refine isCl ?_; first | refine uP ?_) | (refine isFa ?_; first | refine uP ?_) | (refine isBd ?_; first | refine uBd ?_ | refine uP ?_) | (refine isSt ?_; first | refine uSw ?_ | refine uS ?_ | refine uSc ?_) | refine uP ?_ | refine uBx ?_ | refine uN ?_ | refine uON ?_) | refine W_cond true (by rfl) (fun _ => ?_) (fun h => by cases h) | refine W_cond false (by rfl) (fun h => by cases h) (fun _ => ?_) | (refine W_skip ?_; (first | change W _ _ _ _ _ | change EndQ _ _ _ _ _ _ | change Exists _ | change EndG _ _ _ _ _ _ _ _ _ _ | change EndM _ _ _ _ _ _ _ | skip)) | (refine W_ret ?_; (first | change W _ _ _ _ _ | change EndQ _ _ _ _ _ _ | change Exists _ | change EndG _ _ _ _ _ _ _ _ _ _ | change EndM _ _ _ _ _ _ _ | skip)))
    exact end_r (by rfl) (by rw [if_neg (show ¬ (0 ≤ h ∧ 0 ≤ g) from fun h => h1 h.1)] <;> rfl)
set_option maxRecDepth 100000 in
theorem times_raw (a h l m : Int) (h1 : -9223372036854775808 ≤ a * l) (h2 : a * l ≤ 100000000) (h3 : -9223372036854775808 ≤ h * m) (h4 : h * m ≤ 100000000) : CallsV Try.prog 82 [.dat [di a, di h], vI l, vI m] (.val (.dat [di (if 1000000 < a * l then 1000000 else a * l), di (if 0 ≤ h ∧ 0 ≤ m then (if 1000000 < h * m then 1000000 else h * m) else -1)])) := by
  (refine callsV_of_W (Ty := Ty) ty_ok Try.func82 rfl rfl rfl fun w0 S0 => ?_; simp only [argsF, List.zipIdx_cons, List.zipIdx_nil, List.map_cons, List.map_nil, Nat.zero_add])
  by_cases h1 : 0 ≤ h
  · by_cases h2 : 0 ≤ m
    · repeat (first | refine W_seq ?_ | refine W_region ?_ | (refine RL_nil ?_; (first | change W _ _ _ _ _ | change EndQ _ _ _ _ _ _ | change Exists _ | change EndG _ _ _ _ _ _ _ _ _ _ | change EndM _ _ _ _ _ _ _ | skip)) | (refine isRL ?_; first | refine uMv ?_ | refine uO ?_ | (refine isBin ?_; first | refine uIb ?_ | refine uCat ?_ | refine uBb true ?_ | refine uBb false ?_ | refine uP ?_ | refine uEq true ?_ | refine uEq false ?_) | (refine isLd ?_; first | refine uLp ?_ | refine uLb ?_ | refine uL1 ?_ | refine uL2 ?_ | refine uP ?_) | (refine isCl ?_; first | refine uP ?_) | (refine isFa ?_; first | refine uP ?_) | (refine isBd ?_; first | refine uBd ?_ | refine uP ?_) | (refine isSt ?_; first | refine uSw ?_ | refine uS ?_ | refine uSc ?_) | refine uP ?_ | refine uBx ?_ | refine uN ?_ | refine uON ?_) | refine W_cond true (by rfl) (fun _ => ?_) (fun h => by cases h) | refine W_cond false (by rfl) (fun h => by cases h) (fun _ => ?_) | (refine W_skip ?_; (first | change W _ _ _ _ _ | change EndQ _ _ _ _ _ _ | change Exists _ | change EndG _ _ _ _ _ _ _ _ _ _ | change EndM _ _ _ _ _ _ _ | skip)) | (refine W_ret ?_; (first | change W _ _ _ _ _ | change EndQ _ _ _ _ _ _ | change Exists _ | change EndG _ _ _ _ _ _ _ _ _ _ | change EndM _ _ _ _ _ _ _ | skip)))
      exact end_r (by rfl) (by rw [if_pos (show 0 ≤ h ∧ 0 ≤ m from ⟨h1, h2⟩)] <;> rfl)
    · repeat (first | refine W_seq ?_ | refine W_region ?_ | (refine RL_nil ?_; (first | change W _ _ _ _ _ | change EndQ _ _ _ _ _ _ | change Exists _ | change EndG _ _ _ _ _ _ _ _ _ _ | change EndM _ _ _ _ _ _ _ | skip)) | (refine isRL ?_; first | refine uMv ?_ | refine uO ?_ | (refine isBin ?_; first | refine uIb ?_ | refine uCat ?_ | refine uBb true ?_ | refine uBb false ?_ | refine uP ?_ | refine uEq true ?_ | refine uEq false ?_) | (refine isLd ?_; first | refine uLp ?_ | refine uLb ?_ | refine uL1 ?_ | refine uL2 ?_ | refine uP ?_) | (refine isCl ?_; first | refine uP ?_) | (refine isFa ?_; first | refine uP ?_) | (refine isBd ?_; first | refine uBd ?_ | refine uP ?_) | (refine isSt ?_; first | refine uSw ?_ | refine uS ?_ | refine uSc ?_) | refine uP ?_ | refine uBx ?_ | refine uN ?_ | refine uON ?_) | refine W_cond true (by rfl) (fun _ => ?_) (fun h => by cases h) | refine W_cond false (by rfl) (fun h => by cases h) (fun _ => ?_) | (refine W_skip ?_; (first | change W _ _ _ _ _ | change EndQ _ _ _ _ _ _ | change Exists _ | change EndG _ _ _ _ _ _ _ _ _ _ | change EndM _ _ _ _ _ _ _ | skip)) | (refine W_ret ?_; (first | change W _ _ _ _ _ | change EndQ _ _ _ _ _ _ | change Exists _ | change EndG _ _ _ _ _ _ _ _ _ _ | change EndM _ _ _ _ _ _ _ | skip)))
      exact end_r (by rfl) (by rw [if_neg (show ¬ (0 ≤ h ∧ 0 ≤ m) from fun h => h2 h.2)] <;> rfl)
  · repeat (first | refine W_seq ?_ | refine W_region ?_ | (refine RL_nil ?_; (first | change W _ _ _ _ _ | change EndQ _ _ _ _ _ _ | change Exists _ | change EndG _ _ _ _ _ _ _ _ _ _ | change EndM _ _ _ _ _ _ _ | skip)) | (refine isRL ?_; first | refine uMv ?_ | refine uO ?_ | (refine isBin ?_; first | refine uIb ?_ | refine uCat ?_ | refine uBb true ?_ | refine uBb false ?_ | refine uP ?_ | refine uEq true ?_ | refine uEq false ?_) | (refine isLd ?_; first | refine uLp ?_ | refine uLb ?_ | refine uL1 ?_ | refine uL2 ?_ | refine uP ?_) | (refine isCl ?_; first | refine uP ?_) | (refine isFa ?_; first | refine uP ?_) | (refine isBd ?_; first | refine uBd ?_ | refine uP ?_) | (refine isSt ?_; first | refine uSw ?_ | refine uS ?_ | refine uSc ?_) | refine uP ?_ | refine uBx ?_ | refine uN ?_ | refine uON ?_) | refine W_cond true (by rfl) (fun _ => ?_) (fun h => by cases h) | refine W_cond false (by rfl) (fun h => by cases h) (fun _ => ?_) | (refine W_skip ?_; (first | change W _ _ _ _ _ | change EndQ _ _ _ _ _ _ | change Exists _ | change EndG _ _ _ _ _ _ _ _ _ _ | change EndM _ _ _ _ _ _ _ | skip)) | (refine W_ret ?_; (first | change W _ _ _ _ _ | change EndQ _ _ _ _ _ _ | change Exists _ | change EndG _ _ _ _ _ _ _ _ _ _ | change EndM _ _ _ _ _ _ _ | skip)))
    exact end_r (by rfl) (by rw [if_neg (show ¬ (0 ≤ h ∧ 0 ≤ m) from fun h => h1 h.1)] <;> rfl)
theorem to_sp {P : Program} {f : FuncId} {args : List VV} {s : Sp} {a b : Int} (h : CallsV P f args (.val (.dat [di a, di b]))) (h1 : a = s.low) (h2 : b = hiI s.high) : CallsV P f args (.val (.dat (encSp s))) := by subst h1; subst h2; exact h
theorem hiI_le {s : Sp} (h : OkS s) : -1 ≤ hiI s.high ∧ hiI s.high ≤ 1000000 := by
  unfold hiI
  split
  · rename_i a e; have := h.2 a e; omega
  · decide
theorem and_v (s t : Sp) (hs : OkS s) (ht : OkS t) : CallsV Try.prog 83 [.dat (encSp s), .dat (encSp t)] (.val (.dat (encSp (andS s t)))) := by
  have := and_raw s.low (hiI s.high) t.low (hiI t.high) (by have := hs.1; omega) (hiI_le hs) (by have := ht.1; omega) (hiI_le ht)
  refine to_sp this ?_ ?_
  · exact sat_i (by simp)
  · unfold andS hiI andH
    cases s.high <;> cases t.high <;> simp only
    · rfl
    · rfl
    · rfl
    · rw [if_pos (by omega)]; exact sat_i (by simp)
theorem or_v (s t : Sp) : CallsV Try.prog 84 [.dat (encSp s), .dat (encSp t)] (.val (.dat (encSp (orS s t)))) := by
  have := or_raw s.low (hiI s.high) t.low (hiI t.high)
  refine to_sp this ?_ ?_
  · show _ = ((min s.low t.low : Nat) : Int)
    split <;> omega
  · unfold orS hiI orH
    cases s.high <;> cases t.high <;> simp only
    · rfl
    · rfl
    · rfl
    · rw [if_pos (by omega)]; exact max_i _ _
theorem times_v (s : Sp) (hs : OkS s) (l m : Int) (hl : 0 ≤ l ∧ l ≤ 20) (hm : -1 ≤ m ∧ m ≤ 20) : CallsV Try.prog 82 [.dat (encSp s), vI l, vI m] (.val (.dat (encSp (timesS s l m)))) := by
  have e1 : (s.low : Int) * l = ((s.low * l.toNat : Nat) : Int) := by rw [Int.natCast_mul, Int.toNat_of_nonneg hl.1]
  have e2 : s.low * l.toNat ≤ 1000000 * 20 := Nat.mul_le_mul hs.1 (by omega)
  have hq : -20000000 ≤ hiI s.high * m ∧ hiI s.high * m ≤ 20000000 := by
    have := hiI_le hs
    generalize hiI s.high = x at this
    by_cases hx : x = -1
    · subst hx; omega
    · by_cases hm1 : m = -1
      · subst hm1; omega
      · have h0 : 0 ≤ x * m := Int.mul_nonneg (by omega) (by omega)
        have h1 : x * m ≤ 1000000 * 20 := Int.mul_le_mul this.2 hm.2 (by omega) (by omega)
        omega
  have := times_raw s.low (hiI s.high) l m (by rw [e1]; omega) (by rw [e1]; omega) (by omega) (by omega)
  refine to_sp this ?_ ?_
  · exact sat_i e1
  · unfold timesS hiI
    cases s.high with
    | none => simp only [Option.map_none, ite_self]; rfl
    | some h =>
      by_cases hm0 : m < 0
      · simp only [if_pos hm0]; rw [if_neg (by omega)]
      · simp only [if_neg hm0, Option.map_some]
        rw [if_pos (by omega)]
        exact sat_i (by rw [Int.natCast_mul, Int.toNat_of_nonneg (by omega)])
end Go.Proofs.Ytjhkehloipmjfaa
