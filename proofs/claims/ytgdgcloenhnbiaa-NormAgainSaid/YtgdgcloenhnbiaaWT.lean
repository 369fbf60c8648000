/- The program's types, as far as the walks need them. Printed by wip/gen/ty.py. -/
import Derived.Test.YtgdgcloenhnbiaaProg
import Derived.Test.YtgdgcloenhnbiaaW9
namespace Go.Proofs.Ytgdgcloenhnbiaa
open Go.RowKit
def Ty : TypeId → Option TyI
  | 2 => some ⟨false, 1, 8, [.int .i64 0], 0, [], some .i64, 0⟩
  | 3 => some ⟨false, 1, 8, [.int .i64 0], 0, [], some .i64, 0⟩
  | 4 => some ⟨false, 1, 1, [.bool false], 0, [], none, 5⟩
  | 5 => some ⟨false, 1, 1, [.int .u8 0], 0, [], some .u8, 0⟩
  | 6 => some ⟨false, 1, 1, [.int .u8 0], 0, [], some .u8, 0⟩
  | 7 => some ⟨true, 4, 24, [.int .i64 0, .int .i64 0, .bool false, .int .u8 0], 0, [(0, 1), (1, 1), (2, 1), (3, 1)], none, 1⟩
  | 8 => some ⟨true, 4, 24, [.int .i64 0, .int .i64 0, .bool false, .int .u8 0], 0, [(0, 1), (1, 1), (2, 1), (3, 1)], none, 1⟩
  | 9 => some ⟨false, 1, 16, [.string ⟨#[]⟩], 0, [], none, 3⟩
  | 10 => some ⟨false, 1, 16, [.string ⟨#[]⟩], 0, [], none, 3⟩
  | 11 => some ⟨false, 1, 16, [.string ⟨#[]⟩], 0, [], none, 3⟩
  | 12 => some ⟨false, 1, 8, [.int .u64 0], 0, [], some .u64, 0⟩
  | 13 => some ⟨true, 2, 24, [.string ⟨#[]⟩, .int .u64 0], 0, [(0, 1), (1, 1)], none, 1⟩
  | 14 => some ⟨true, 2, 24, [.string ⟨#[]⟩, .int .u64 0], 0, [(0, 1), (1, 1)], none, 1⟩
  | 15 => some ⟨false, 1, 8, [.pointer none], 0, [], none, 0⟩
  | 16 => some ⟨false, 1, 8, [.pointer none], 0, [], none, 0⟩
  | 17 => some ⟨false, 1, 8, [.pointer none], 0, [], none, 0⟩
  | 18 => some ⟨true, 1, 8, [.pointer none], 0, [(0, 1)], none, 1⟩
  | 19 => some ⟨true, 1, 8, [.pointer none], 0, [(0, 1)], none, 1⟩
  | 21 => some ⟨false, 1, 4, [.int .i32 0], 0, [], some .i32, 0⟩
  | 22 => some ⟨false, 1, 8, [.float .f64 0], 0, [], none, 0⟩
  | 23 => some ⟨true, 4, 40, [.int .i64 0, .int .i64 0, .float .f64 0, .string ⟨#[]⟩], 0, [(0, 1), (1, 1), (2, 1), (3, 1)], none, 1⟩
  | 24 => some ⟨true, 4, 40, [.int .i64 0, .int .i64 0, .float .f64 0, .string ⟨#[]⟩], 0, [(0, 1), (1, 1), (2, 1), (3, 1)], none, 1⟩
  | 25 => some ⟨false, 1, 24, [.slice none 0 0], 27, [], none, 2⟩
  | 26 => some ⟨true, 7, 88, [.int .i64 0, .string ⟨#[]⟩, .int .i64 0, .int .i64 0, .float .f64 0, .string ⟨#[]⟩, .slice none 0 0], 0, [(0, 1), (1, 1), (2, 4), (6, 1)], none, 1⟩
  | 27 => some ⟨true, 7, 88, [.int .i64 0, .string ⟨#[]⟩, .int .i64 0, .int .i64 0, .float .f64 0, .string ⟨#[]⟩, .slice none 0 0], 0, [(0, 1), (1, 1), (2, 4), (6, 1)], none, 1⟩
  | 28 => some ⟨false, 1, 24, [.slice none 0 0], 30, [], none, 2⟩
  | 29 => some ⟨true, 20, 248, [.int .i64 0, .string ⟨#[]⟩, .int .i64 0, .int .i64 0, .string ⟨#[]⟩, .int .i64 0, .int .i64 0, .float .f64 0, .string ⟨#[]⟩, .slice none 0 0, .int .i64 0, .string ⟨#[]⟩, .int .i64 0, .int .i64 0, .float .f64 0, .string ⟨#[]⟩, .slice none 0 0, .int .i64 0, .int .i64 0, .slice none 0 0], 0, [(0, 1), (1, 1), (2, 1), (3, 7), (10, 7), (17, 1), (18, 1), (19, 1)], none, 1⟩
  | 30 => some ⟨true, 20, 248, [.int .i64 0, .string ⟨#[]⟩, .int .i64 0, .int .i64 0, .string ⟨#[]⟩, .int .i64 0, .int .i64 0, .float .f64 0, .string ⟨#[]⟩, .slice none 0 0, .int .i64 0, .string ⟨#[]⟩, .int .i64 0, .int .i64 0, .float .f64 0, .string ⟨#[]⟩, .slice none 0 0, .int .i64 0, .int .i64 0, .slice none 0 0], 0, [(0, 1), (1, 1), (2, 1), (3, 7), (10, 7), (17, 1), (18, 1), (19, 1)], none, 1⟩
  | 43 => some ⟨true, 23, 272, [.int .i64 0, .int .i64 0, .int .i64 0, .int .i64 0, .string ⟨#[]⟩, .int .i64 0, .int .i64 0, .string ⟨#[]⟩, .int .i64 0, .int .i64 0, .float .f64 0, .string ⟨#[]⟩, .slice none 0 0, .int .i64 0, .string ⟨#[]⟩, .int .i64 0, .int .i64 0, .float .f64 0, .string ⟨#[]⟩, .slice none 0 0, .int .i64 0, .int .i64 0, .slice none 0 0], 0, [(0, 1), (1, 1), (2, 1), (3, 20)], none, 1⟩
  | 44 => some ⟨true, 23, 272, [.int .i64 0, .int .i64 0, .int .i64 0, .int .i64 0, .string ⟨#[]⟩, .int .i64 0, .int .i64 0, .string ⟨#[]⟩, .int .i64 0, .int .i64 0, .float .f64 0, .string ⟨#[]⟩, .slice none 0 0, .int .i64 0, .string ⟨#[]⟩, .int .i64 0, .int .i64 0, .float .f64 0, .string ⟨#[]⟩, .slice none 0 0, .int .i64 0, .int .i64 0, .slice none 0 0], 0, [(0, 1), (1, 1), (2, 1), (3, 20)], none, 1⟩
  | 45 => some ⟨false, 1, 8, [.int .i64 0], 0, [], some .i64, 0⟩
  | 47 => some ⟨false, 1, 24, [.slice none 0 0], 9, [], none, 2⟩
  | 55 => some ⟨false, 1, 8, [.int .u64 0], 0, [], some .u64, 0⟩
  | 62 => some ⟨true, 2, 16, [.int .i64 0, .int .i64 0], 0, [(0, 1), (1, 1)], none, 1⟩
  | 63 => some ⟨true, 2, 16, [.int .i64 0, .int .i64 0], 0, [(0, 1), (1, 1)], none, 1⟩
  | 81 => some ⟨false, 1, 4, [.int .u32 0], 0, [], some .u32, 0⟩
  | 84 => some ⟨false, 1, 8, [.int .u64 0], 0, [], some .u64, 0⟩
  | 88 => some ⟨false, 1, 8, [.int .i64 0], 0, [], some .i64, 0⟩
  | 99 => some ⟨false, 1, 8, [.int .u64 0], 0, [], some .u64, 0⟩
  | 103 => some ⟨false, 1, 8, [.pointer none], 0, [], none, 0⟩
  | 107 => some ⟨true, 3, 24, [.int .i64 0, .bool false, .nilFunc], 0, [(0, 1), (1, 1), (2, 1)], none, 1⟩
  | 108 => some ⟨true, 3, 24, [.int .i64 0, .bool false, .nilFunc], 0, [(0, 1), (1, 1), (2, 1)], none, 1⟩
  | 110 => some ⟨false, 1, 8, [.map none], 0, [], none, 4⟩
  | 116 => some ⟨false, 1, 8, [.pointer none], 0, [], none, 0⟩
  | 127 => some ⟨true, 4, 40, [.pointer none, .pointer none, .pointer none, .string ⟨#[]⟩], 0, [(0, 1), (1, 1), (2, 1), (3, 1)], none, 1⟩
  | 128 => some ⟨true, 4, 40, [.pointer none, .pointer none, .pointer none, .string ⟨#[]⟩], 0, [(0, 1), (1, 1), (2, 1), (3, 1)], none, 1⟩
  | 133 => some ⟨false, 1, 1, [.int .u8 0], 0, [], some .u8, 0⟩
  | 134 => some ⟨false, 1, 1, [.int .u8 0], 0, [], some .u8, 0⟩
  | 136 => some ⟨false, 1, 8, [.pointer none], 0, [], none, 0⟩
  | 137 => some ⟨false, 1, 4, [.int .i32 0], 0, [], some .i32, 0⟩
  | 138 => some ⟨false, 1, 4, [.int .i32 0], 0, [], some .i32, 0⟩
  | 139 => some ⟨true, 11, 48, [.int .u64 0, .int .u64 0, .int .u32 0, .int .u8 0, .int .u8 0, .int .u8 0, .int .u8 0, .nilFunc, .pointer none, .int .i32 0, .int .i32 0], 0, [(0, 1), (1, 1), (2, 1), (3, 1), (4, 1), (5, 1), (6, 1), (7, 1), (8, 1), (9, 1), (10, 1)], none, 1⟩
  | 140 => some ⟨true, 11, 48, [.int .u64 0, .int .u64 0, .int .u32 0, .int .u8 0, .int .u8 0, .int .u8 0, .int .u8 0, .nilFunc, .pointer none, .int .i32 0, .int .i32 0], 0, [(0, 1), (1, 1), (2, 1), (3, 1), (4, 1), (5, 1), (6, 1), (7, 1), (8, 1), (9, 1), (10, 1)], none, 1⟩
  | _ => none
set_option maxRecDepth 100000 in
theorem ty_ok : ∀ t i, Ty t = some i → TyOK Try.prog t i := by
  intro t i h
  unfold Ty at h
  split at h <;> first
    | (cases h; done)
    | (injection h with h; subst h; exact ⟨by kernel_rfl, by kernel_rfl, by kernel_rfl, by kernel_rfl, by kernel_rfl, by kernel_rfl, by kernel_rfl, by kernel_rfl, rfl, rfl, by decide, by decide, fun h => by first | rfl | cases h⟩)
end Go.Proofs.Ytgdgcloenhnbiaa
