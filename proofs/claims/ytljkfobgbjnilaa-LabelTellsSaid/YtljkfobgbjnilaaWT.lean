/- The program's types, as far as the walks need them. Printed by wip/gen/ty.py. -/
import Derived.Test.YtljkfobgbjnilaaProg
import Derived.Test.YtljkfobgbjnilaaW9
namespace Go.Proofs.Ytljkfobgbjnilaa
open Go.RowKit
def Ty : TypeId → Option TyI
  | 2 => some ⟨false, 1, 8, [.int .i64 0], 0, [], some .i64, 0⟩
  | 3 => some ⟨false, 1, 8, [.int .i64 0], 0, [], some .i64, 0⟩
  | 4 => some ⟨false, 1, 1, [.bool false], 0, [], none, 5⟩
  | 5 => some ⟨false, 1, 1, [.int .u8 0], 0, [], some .u8, 0⟩
  | 6 => some ⟨false, 1, 1, [.int .u8 0], 0, [], some .u8, 0⟩
  | 7 => some ⟨true, 4, 24, [.int .i64 0, .int .i64 0, .bool false, .int .u8 0], 0, [(0, 1), (1, 1), (2, 1), (3, 1)], none, 1⟩
  | 8 => some ⟨true, 4, 24, [.int .i64 0, .int .i64 0, .bool false, .int .u8 0], 0, [(0, 1), (1, 1), (2, 1), (3, 1)], none, 1⟩
  | 9 => some ⟨false, 1, 16, [.string ⟨#[]⟩], 0, [], none, 3⟩
  | 10 => some ⟨false, 1, 16, [.string ⟨#[]⟩], 0, [], none, 3⟩
  | 11 => some ⟨false, 1, 16, [.string ⟨#[]⟩], 0, [], none, 3⟩
  | 12 => some ⟨false, 1, 8, [.int .u64 0], 0, [], some .u64, 0⟩
  | 13 => some ⟨true, 2, 24, [.string ⟨#[]⟩, .int .u64 0], 0, [(0, 1), (1, 1)], none, 1⟩
  | 14 => some ⟨true, 2, 24, [.string ⟨#[]⟩, .int .u64 0], 0, [(0, 1), (1, 1)], none, 1⟩
  | 15 => some ⟨false, 1, 8, [.pointer none], 0, [], none, 0⟩
  | 16 => some ⟨false, 1, 8, [.pointer none], 0, [], none, 0⟩
  | 17 => some ⟨false, 1, 8, [.pointer none], 0, [], none, 0⟩
  | 18 => some ⟨true, 1, 8, [.pointer none], 0, [(0, 1)], none, 1⟩
  | 19 => some ⟨true, 1, 8, [.pointer none], 0, [(0, 1)], none, 1⟩
  | 21 => some ⟨false, 1, 4, [.int .i32 0], 0, [], some .i32, 0⟩
  | 22 => some ⟨false, 1, 24, [.slice none 0 0], 9, [], none, 2⟩
  | 23 => some ⟨false, 1, 8, [.float .f64 0], 0, [], none, 0⟩
  | 24 => some ⟨true, 4, 40, [.int .i64 0, .int .i64 0, .float .f64 0, .string ⟨#[]⟩], 0, [(0, 1), (1, 1), (2, 1), (3, 1)], none, 1⟩
  | 25 => some ⟨true, 4, 40, [.int .i64 0, .int .i64 0, .float .f64 0, .string ⟨#[]⟩], 0, [(0, 1), (1, 1), (2, 1), (3, 1)], none, 1⟩
  | 26 => some ⟨false, 1, 24, [.slice none 0 0], 28, [], none, 2⟩
  | 27 => some ⟨true, 7, 88, [.int .i64 0, .string ⟨#[]⟩, .int .i64 0, .int .i64 0, .float .f64 0, .string ⟨#[]⟩, .slice none 0 0], 0, [(0, 1), (1, 1), (2, 4), (6, 1)], none, 1⟩
  | 28 => some ⟨true, 7, 88, [.int .i64 0, .string ⟨#[]⟩, .int .i64 0, .int .i64 0, .float .f64 0, .string ⟨#[]⟩, .slice none 0 0], 0, [(0, 1), (1, 1), (2, 4), (6, 1)], none, 1⟩
  | 47 => some ⟨false, 1, 8, [.map none], 0, [], none, 4⟩
  | 54 => some ⟨true, 3, 24, [.int .i64 0, .bool false, .nilFunc], 0, [(0, 1), (1, 1), (2, 1)], none, 1⟩
  | 55 => some ⟨true, 3, 24, [.int .i64 0, .bool false, .nilFunc], 0, [(0, 1), (1, 1), (2, 1)], none, 1⟩
  | 56 => some ⟨false, 1, 8, [.map none], 0, [], none, 4⟩
  | 65 => some ⟨false, 1, 8, [.int .u64 0], 0, [], some .u64, 0⟩
  | 69 => some ⟨false, 1, 8, [.int .i64 0], 0, [], some .i64, 0⟩
  | 77 => some ⟨false, 1, 4, [.int .u32 0], 0, [], some .u32, 0⟩
  | 79 => some ⟨false, 1, 8, [.int .u64 0], 0, [], some .u64, 0⟩
  | 80 => some ⟨false, 1, 8, [.int .u64 0], 0, [], some .u64, 0⟩
  | 84 => some ⟨false, 1, 8, [.pointer none], 0, [], none, 0⟩
  | 86 => some ⟨false, 1, 8, [.pointer none], 0, [], none, 0⟩
  | 90 => some ⟨true, 4, 40, [.pointer none, .pointer none, .pointer none, .string ⟨#[]⟩], 0, [(0, 1), (1, 1), (2, 1), (3, 1)], none, 1⟩
  | 91 => some ⟨true, 4, 40, [.pointer none, .pointer none, .pointer none, .string ⟨#[]⟩], 0, [(0, 1), (1, 1), (2, 1), (3, 1)], none, 1⟩
  | 96 => some ⟨false, 1, 1, [.int .u8 0], 0, [], some .u8, 0⟩
  | 97 => some ⟨false, 1, 1, [.int .u8 0], 0, [], some .u8, 0⟩
  | 99 => some ⟨false, 1, 8, [.pointer none], 0, [], none, 0⟩
  | 100 => some ⟨false, 1, 4, [.int .i32 0], 0, [], some .i32, 0⟩
  | 101 => some ⟨false, 1, 4, [.int .i32 0], 0, [], some .i32, 0⟩
  | 102 => some ⟨true, 11, 48, [.int .u64 0, .int .u64 0, .int .u32 0, .int .u8 0, .int .u8 0, .int .u8 0, .int .u8 0, .nilFunc, .pointer none, .int .i32 0, .int .i32 0], 0, [(0, 1), (1, 1), (2, 1), (3, 1), (4, 1), (5, 1), (6, 1), (7, 1), (8, 1), (9, 1), (10, 1)], none, 1⟩
  | 103 => some ⟨true, 11, 48, [.int .u64 0, .int .u64 0, .int .u32 0, .int .u8 0, .int .u8 0, .int .u8 0, .int .u8 0, .nilFunc, .pointer none, .int .i32 0, .int .i32 0], 0, [(0, 1), (1, 1), (2, 1), (3, 1), (4, 1), (5, 1), (6, 1), (7, 1), (8, 1), (9, 1), (10, 1)], none, 1⟩
  | _ => none
set_option maxRecDepth 100000 in
theorem ty_ok : ∀ t i, Ty t = some i → TyOK Try.prog t i := by
  intro t i h
  unfold Ty at h
  split at h <;> first
    | (cases h; done)
    | (injection h with h; subst h; exact ⟨by kernel_rfl, by kernel_rfl, by kernel_rfl, by kernel_rfl, by kernel_rfl, by kernel_rfl, by kernel_rfl, by kernel_rfl, rfl, rfl, by decide, by decide, fun h => by first | rfl | cases h⟩)
end Go.Proofs.Ytljkfobgbjnilaa
