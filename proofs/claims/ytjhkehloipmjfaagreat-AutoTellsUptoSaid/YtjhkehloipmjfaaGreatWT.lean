/- The program's types, as far as the walks need them. Printed by wip/gen/ty.py. -/
import Derived.Test.YtjhkehloipmjfaaGreatProg
import Derived.Test.YtjhkehloipmjfaaGreatWE
set_option maxRecDepth 100000
namespace Go.Proofs.YtjhkehloipmjfaaGreat
open Go.RowKit
def Ty0 : TypeId → Option TyI
  | 1 => some ⟨false, 1, 8, [.nilFunc], 0, [], none, 0⟩
  | 2 => some ⟨false, 1, 8, [.int .i64 0], 0, [], some .i64, 0⟩
  | 3 => some ⟨false, 1, 8, [.int .i64 0], 0, [], some .i64, 0⟩
  | 4 => some ⟨false, 1, 1, [.bool false], 0, [], none, 5⟩
  | 5 => some ⟨false, 1, 1, [.int .u8 0], 0, [], some .u8, 0⟩
  | 6 => some ⟨false, 1, 1, [.int .u8 0], 0, [], some .u8, 0⟩
  | 7 => some ⟨true, 4, 24, [.int .i64 0, .int .i64 0, .bool false, .int .u8 0], 0, [(0, 1), (1, 1), (2, 1), (3, 1)], none, 1⟩
  | 8 => some ⟨true, 4, 24, [.int .i64 0, .int .i64 0, .bool false, .int .u8 0], 0, [(0, 1), (1, 1), (2, 1), (3, 1)], none, 1⟩
  | 9 => some ⟨false, 1, 16, [.string ⟨#[]⟩], 0, [], none, 3⟩
  | 10 => some ⟨false, 1, 16, [.string ⟨#[]⟩], 0, [], none, 3⟩
  | 11 => some ⟨false, 1, 16, [.string ⟨#[]⟩], 0, [], none, 3⟩
  | 12 => some ⟨false, 1, 8, [.int .u64 0], 0, [], some .u64, 0⟩
  | 13 => some ⟨true, 2, 24, [.string ⟨#[]⟩, .int .u64 0], 0, [(0, 1), (1, 1)], none, 1⟩
  | 14 => some ⟨true, 2, 24, [.string ⟨#[]⟩, .int .u64 0], 0, [(0, 1), (1, 1)], none, 1⟩
  | 15 => some ⟨false, 1, 8, [.pointer none], 0, [], none, 0⟩
  | 16 => some ⟨false, 1, 8, [.pointer none], 0, [], none, 0⟩
  | 17 => some ⟨false, 1, 8, [.pointer none], 0, [], none, 0⟩
  | 18 => some ⟨true, 1, 8, [.pointer none], 0, [(0, 1)], none, 1⟩
  | 19 => some ⟨true, 1, 8, [.pointer none], 0, [(0, 1)], none, 1⟩
  | 21 => some ⟨false, 1, 4, [.int .i32 0], 0, [], some .i32, 0⟩
  | 22 => some ⟨false, 1, 24, [.slice none 0 0], 81, [], none, 2⟩
  | 23 => some ⟨false, 1, 24, [.slice none 0 0], 79, [], none, 2⟩
  | 24 => some ⟨true, 2, 48, [.slice none 0 0, .slice none 0 0], 0, [(0, 1), (1, 1)], none, 1⟩
  | 25 => some ⟨true, 2, 48, [.slice none 0 0, .slice none 0 0], 0, [(0, 1), (1, 1)], none, 1⟩
  | 26 => some ⟨false, 1, 8, [.float .f64 0], 0, [], none, 0⟩
  | 27 => some ⟨true, 4, 40, [.int .i64 0, .int .i64 0, .float .f64 0, .string ⟨#[]⟩], 0, [(0, 1), (1, 1), (2, 1), (3, 1)], none, 1⟩
  | 28 => some ⟨true, 4, 40, [.int .i64 0, .int .i64 0, .float .f64 0, .string ⟨#[]⟩], 0, [(0, 1), (1, 1), (2, 1), (3, 1)], none, 1⟩
  | 29 => some ⟨false, 1, 24, [.slice none 0 0], 31, [], none, 2⟩
  | 30 => some ⟨true, 7, 88, [.int .i64 0, .string ⟨#[]⟩, .int .i64 0, .int .i64 0, .float .f64 0, .string ⟨#[]⟩, .slice none 0 0], 0, [(0, 1), (1, 1), (2, 4), (6, 1)], none, 1⟩
  | 31 => some ⟨true, 7, 88, [.int .i64 0, .string ⟨#[]⟩, .int .i64 0, .int .i64 0, .float .f64 0, .string ⟨#[]⟩, .slice none 0 0], 0, [(0, 1), (1, 1), (2, 4), (6, 1)], none, 1⟩
  | 32 => some ⟨false, 1, 24, [.slice none 0 0], 34, [], none, 2⟩
  | 33 => some ⟨true, 20, 248, [.int .i64 0, .string ⟨#[]⟩, .int .i64 0, .int .i64 0, .string ⟨#[]⟩, .int .i64 0, .int .i64 0, .float .f64 0, .string ⟨#[]⟩, .slice none 0 0, .int .i64 0, .string ⟨#[]⟩, .int .i64 0, .int .i64 0, .float .f64 0, .string ⟨#[]⟩, .slice none 0 0, .int .i64 0, .int .i64 0, .slice none 0 0], 0, [(0, 1), (1, 1), (2, 1), (3, 7), (10, 7), (17, 1), (18, 1), (19, 1)], none, 1⟩
  | 34 => some ⟨true, 20, 248, [.int .i64 0, .string ⟨#[]⟩, .int .i64 0, .int .i64 0, .string ⟨#[]⟩, .int .i64 0, .int .i64 0, .float .f64 0, .string ⟨#[]⟩, .slice none 0 0, .int .i64 0, .string ⟨#[]⟩, .int .i64 0, .int .i64 0, .float .f64 0, .string ⟨#[]⟩, .slice none 0 0, .int .i64 0, .int .i64 0, .slice none 0 0], 0, [(0, 1), (1, 1), (2, 1), (3, 7), (10, 7), (17, 1), (18, 1), (19, 1)], none, 1⟩
  | 35 => some ⟨false, 1, 24, [.slice none 0 0], 4, [], none, 2⟩
  | 36 => some ⟨false, 1, 8, [.nilFunc], 0, [], none, 0⟩
  | 37 => some ⟨false, 1, 8, [.nilFunc], 0, [], none, 0⟩
  | 38 => some ⟨false, 1, 8, [.nilFunc], 0, [], none, 0⟩
  | 39 => some ⟨false, 1, 24, [.slice none 0 0], 35, [], none, 2⟩
  | 40 => some ⟨false, 1, 8, [.int .i64 0], 0, [], some .i64, 0⟩
  | 42 => some ⟨false, 1, 8, [.nilFunc], 0, [], none, 0⟩
  | 43 => some ⟨false, 1, 24, [.slice none 0 0], 68, [], none, 2⟩
  | 44 => some ⟨true, 3, 56, [.slice none 0 0, .slice none 0 0, .int .i64 0], 0, [(0, 1), (1, 1), (2, 1)], none, 1⟩
  | 45 => some ⟨true, 3, 56, [.slice none 0 0, .slice none 0 0, .int .i64 0], 0, [(0, 1), (1, 1), (2, 1)], none, 1⟩
  | 46 => some ⟨false, 1, 8, [.nilFunc], 0, [], none, 0⟩
  | 47 => some ⟨false, 1, 24, [.slice none 0 0], 89, [], none, 2⟩
  | 48 => some ⟨true, 3, 56, [.slice none 0 0, .slice none 0 0, .int .i64 0], 0, [(0, 1), (1, 1), (2, 1)], none, 1⟩
  | 49 => some ⟨true, 3, 56, [.slice none 0 0, .slice none 0 0, .int .i64 0], 0, [(0, 1), (1, 1), (2, 1)], none, 1⟩
  | 50 => some ⟨false, 1, 8, [.nilFunc], 0, [], none, 0⟩
  | 51 => some ⟨false, 1, 8, [.nilFunc], 0, [], none, 0⟩
  | 52 => some ⟨false, 1, 24, [.slice none 0 0], 4, [], none, 2⟩
  | 53 => some ⟨false, 1, 8, [.nilFunc], 0, [], none, 0⟩
  | 54 => some ⟨false, 1, 8, [.nilFunc], 0, [], none, 0⟩
  | 55 => some ⟨false, 1, 8, [.nilFunc], 0, [], none, 0⟩
  | 56 => some ⟨false, 1, 8, [.nilFunc], 0, [], none, 0⟩
  | 57 => some ⟨false, 1, 8, [.nilFunc], 0, [], none, 0⟩
  | 58 => some ⟨false, 1, 24, [.slice none 0 0], 3, [], none, 2⟩
  | 59 => some ⟨true, 2, 48, [.slice none 0 0, .slice none 0 0], 0, [(0, 1), (1, 1)], none, 1⟩
  | 60 => some ⟨true, 2, 48, [.slice none 0 0, .slice none 0 0], 0, [(0, 1), (1, 1)], none, 1⟩
  | 61 => some ⟨false, 1, 8, [.nilFunc], 0, [], none, 0⟩
  | 62 => some ⟨false, 1, 8, [.nilFunc], 0, [], none, 0⟩
  | 63 => some ⟨false, 1, 8, [.nilFunc], 0, [], none, 0⟩
  | 65 => some ⟨false, 1, 8, [.nilFunc], 0, [], none, 0⟩
  | 66 => some ⟨false, 1, 8, [.nilFunc], 0, [], none, 0⟩
  | 67 => some ⟨true, 3, 24, [.int .i64 0, .int .i64 0, .int .i64 0], 0, [(0, 1), (1, 1), (2, 1)], none, 1⟩
  | 68 => some ⟨true, 3, 24, [.int .i64 0, .int .i64 0, .int .i64 0], 0, [(0, 1), (1, 1), (2, 1)], none, 1⟩
  | 69 => some ⟨false, 1, 8, [.nilFunc], 0, [], none, 0⟩
  | 70 => some ⟨false, 1, 8, [.nilFunc], 0, [], none, 0⟩
  | 71 => some ⟨false, 1, 8, [.nilFunc], 0, [], none, 0⟩
  | 72 => some ⟨true, 23, 272, [.int .i64 0, .int .i64 0, .int .i64 0, .int .i64 0, .string ⟨#[]⟩, .int .i64 0, .int .i64 0, .string ⟨#[]⟩, .int .i64 0, .int .i64 0, .float .f64 0, .string ⟨#[]⟩, .slice none 0 0, .int .i64 0, .string ⟨#[]⟩, .int .i64 0, .int .i64 0, .float .f64 0, .string ⟨#[]⟩, .slice none 0 0, .int .i64 0, .int .i64 0, .slice none 0 0], 0, [(0, 1), (1, 1), (2, 1), (3, 20)], none, 1⟩
  | 73 => some ⟨true, 23, 272, [.int .i64 0, .int .i64 0, .int .i64 0, .int .i64 0, .string ⟨#[]⟩, .int .i64 0, .int .i64 0, .string ⟨#[]⟩, .int .i64 0, .int .i64 0, .float .f64 0, .string ⟨#[]⟩, .slice none 0 0, .int .i64 0, .string ⟨#[]⟩, .int .i64 0, .int .i64 0, .float .f64 0, .string ⟨#[]⟩, .slice none 0 0, .int .i64 0, .int .i64 0, .slice none 0 0], 0, [(0, 1), (1, 1), (2, 1), (3, 20)], none, 1⟩
  | 74 => some ⟨false, 1, 8, [.nilFunc], 0, [], none, 0⟩
  | 75 => some ⟨false, 1, 8, [.nilFunc], 0, [], none, 0⟩
  | 76 => some ⟨false, 1, 24, [.slice none 0 0], 9, [], none, 2⟩
  | 77 => some ⟨false, 1, 24, [.slice none 0 0], 147, [], none, 2⟩
  | 78 => some ⟨true, 6, 88, [.string ⟨#[]⟩, .int .i64 0, .int .i64 0, .bool false, .slice none 0 0, .slice none 0 0], 0, [(0, 1), (1, 1), (2, 1), (3, 1), (4, 1), (5, 1)], none, 1⟩
  | 79 => some ⟨true, 6, 88, [.string ⟨#[]⟩, .int .i64 0, .int .i64 0, .bool false, .slice none 0 0, .slice none 0 0], 0, [(0, 1), (1, 1), (2, 1), (3, 1), (4, 1), (5, 1)], none, 1⟩
  | 80 => some ⟨true, 3, 64, [.string ⟨#[]⟩, .slice none 0 0, .slice none 0 0], 0, [(0, 1), (1, 1), (2, 1)], none, 1⟩
  | 81 => some ⟨true, 3, 64, [.string ⟨#[]⟩, .slice none 0 0, .slice none 0 0], 0, [(0, 1), (1, 1), (2, 1)], none, 1⟩
  | 83 => some ⟨false, 1, 8, [.nilFunc], 0, [], none, 0⟩
  | 84 => some ⟨false, 1, 8, [.nilFunc], 0, [], none, 0⟩
  | 85 => some ⟨false, 1, 8, [.pointer none], 0, [], none, 0⟩
  | 86 => some ⟨false, 1, 8, [.nilFunc], 0, [], none, 0⟩
  | 87 => some ⟨false, 1, 8, [.nilFunc], 0, [], none, 0⟩
  | 88 => some ⟨false, 1, 8, [.nilFunc], 0, [], none, 0⟩
  | 89 => some ⟨true, 3, 24, [.int .i64 0, .int .i64 0, .int .i64 0], 0, [(0, 1), (1, 1), (2, 1)], none, 1⟩
  | 90 => some ⟨false, 1, 8, [.nilFunc], 0, [], none, 0⟩
  | 91 => some ⟨false, 1, 8, [.nilFunc], 0, [], none, 0⟩
  | 92 => some ⟨false, 1, 8, [.pointer none], 0, [], none, 0⟩
  | 93 => some ⟨false, 1, 8, [.map none], 0, [], none, 4⟩
  | 94 => some ⟨true, 9, 184, [.slice none 0 0, .slice none 0 0, .int .i64 0, .slice none 0 0, .slice none 0 0, .slice none 0 0, .slice none 0 0, .slice none 0 0, .map none], 0, [(0, 3), (3, 2), (5, 1), (6, 2), (8, 1)], none, 1⟩
  | 95 => some ⟨true, 9, 184, [.slice none 0 0, .slice none 0 0, .int .i64 0, .slice none 0 0, .slice none 0 0, .slice none 0 0, .slice none 0 0, .slice none 0 0, .map none], 0, [(0, 3), (3, 2), (5, 1), (6, 2), (8, 1)], none, 1⟩
  | 96 => some ⟨false, 1, 8, [.nilFunc], 0, [], none, 0⟩
  | 97 => some ⟨true, 2, 16, [.int .i64 0, .int .i64 0], 0, [(0, 1), (1, 1)], none, 1⟩
  | 98 => some ⟨true, 2, 16, [.int .i64 0, .int .i64 0], 0, [(0, 1), (1, 1)], none, 1⟩
  | 99 => some ⟨false, 1, 8, [.nilFunc], 0, [], none, 0⟩
  | 100 => some ⟨false, 1, 8, [.nilFunc], 0, [], none, 0⟩
  | 101 => some ⟨false, 1, 8, [.nilFunc], 0, [], none, 0⟩
  | 102 => some ⟨false, 1, 24, [.slice none 0 0], 105, [], none, 2⟩
  | 103 => some ⟨false, 1, 8, [.nilFunc], 0, [], none, 0⟩
  | 104 => some ⟨true, 2, 48, [.slice none 0 0, .slice none 0 0], 0, [(0, 1), (1, 1)], none, 1⟩
  | _ => none
theorem zmn : ∀ t i, Ty0 t = some i → TyOK Tryz.prog t i := by
  intro t i h
  unfold Ty0 at h
  split at h <;> first
    | (cases h; done)
    | (injection h with h; subst h; exact ⟨by kernel_rfl, by kernel_rfl, by kernel_rfl, by kernel_rfl, by kernel_rfl, by kernel_rfl, by kernel_rfl, by kernel_rfl, rfl, rfl, by decide, by decide, fun h => by first | rfl | cases h⟩)
def Ty1 : TypeId → Option TyI
  | 105 => some ⟨true, 2, 48, [.slice none 0 0, .slice none 0 0], 0, [(0, 1), (1, 1)], none, 1⟩
  | 106 => some ⟨false, 1, 8, [.nilFunc], 0, [], none, 0⟩
  | 107 => some ⟨false, 1, 8, [.nilFunc], 0, [], none, 0⟩
  | 108 => some ⟨true, 5, 120, [.slice none 0 0, .slice none 0 0, .slice none 0 0, .slice none 0 0, .slice none 0 0], 0, [(0, 2), (2, 2), (4, 1)], none, 1⟩
  | 109 => some ⟨true, 5, 120, [.slice none 0 0, .slice none 0 0, .slice none 0 0, .slice none 0 0, .slice none 0 0], 0, [(0, 2), (2, 2), (4, 1)], none, 1⟩
  | 110 => some ⟨false, 1, 8, [.nilFunc], 0, [], none, 0⟩
  | 111 => some ⟨true, 21, 256, [.int .i64 0, .string ⟨#[]⟩, .int .i64 0, .int .i64 0, .string ⟨#[]⟩, .int .i64 0, .int .i64 0, .float .f64 0, .string ⟨#[]⟩, .slice none 0 0, .int .i64 0, .string ⟨#[]⟩, .int .i64 0, .int .i64 0, .float .f64 0, .string ⟨#[]⟩, .slice none 0 0, .int .i64 0, .int .i64 0, .slice none 0 0, .int .i64 0], 0, [(0, 20), (20, 1)], none, 1⟩
  | 112 => some ⟨true, 21, 256, [.int .i64 0, .string ⟨#[]⟩, .int .i64 0, .int .i64 0, .string ⟨#[]⟩, .int .i64 0, .int .i64 0, .float .f64 0, .string ⟨#[]⟩, .slice none 0 0, .int .i64 0, .string ⟨#[]⟩, .int .i64 0, .int .i64 0, .float .f64 0, .string ⟨#[]⟩, .slice none 0 0, .int .i64 0, .int .i64 0, .slice none 0 0, .int .i64 0], 0, [(0, 20), (20, 1)], none, 1⟩
  | 113 => some ⟨false, 1, 8, [.nilFunc], 0, [], none, 0⟩
  | 114 => some ⟨false, 1, 8, [.nilFunc], 0, [], none, 0⟩
  | 115 => some ⟨false, 1, 8, [.pointer none], 0, [], none, 0⟩
  | 116 => some ⟨false, 1, 8, [.nilFunc], 0, [], none, 0⟩
  | 117 => some ⟨false, 1, 8, [.map none], 0, [], none, 4⟩
  | 118 => some ⟨false, 1, 24, [.slice none 0 0], 268, [], none, 2⟩
  | 119 => some ⟨true, 5, 88, [.slice none 0 0, .slice none 0 0, .map none, .map none, .slice none 0 0], 0, [(0, 2), (2, 1), (3, 1), (4, 1)], none, 1⟩
  | 120 => some ⟨true, 5, 88, [.slice none 0 0, .slice none 0 0, .map none, .map none, .slice none 0 0], 0, [(0, 2), (2, 1), (3, 1), (4, 1)], none, 1⟩
  | 121 => some ⟨false, 1, 8, [.nilFunc], 0, [], none, 0⟩
  | 122 => some ⟨false, 1, 8, [.nilFunc], 0, [], none, 0⟩
  | 123 => some ⟨false, 1, 8, [.nilFunc], 0, [], none, 0⟩
  | 124 => some ⟨false, 1, 8, [.nilFunc], 0, [], none, 0⟩
  | 125 => some ⟨false, 1, 8, [.nilFunc], 0, [], none, 0⟩
  | 126 => some ⟨true, 2, 16, [.int .i64 0, .int .i64 0], 0, [(0, 1), (1, 1)], none, 1⟩
  | 127 => some ⟨true, 2, 16, [.int .i64 0, .int .i64 0], 0, [(0, 1), (1, 1)], none, 1⟩
  | 128 => some ⟨false, 1, 8, [.nilFunc], 0, [], none, 0⟩
  | 129 => some ⟨false, 1, 8, [.nilFunc], 0, [], none, 0⟩
  | 130 => some ⟨false, 1, 8, [.pointer none], 0, [], none, 0⟩
  | 131 => some ⟨false, 1, 8, [.nilFunc], 0, [], none, 0⟩
  | 132 => some ⟨false, 1, 8, [.nilFunc], 0, [], none, 0⟩
  | 134 => some ⟨false, 1, 8, [.int .u64 0], 0, [], some .u64, 0⟩
  | 136 => some ⟨false, 1, 8, [.nilFunc], 0, [], none, 0⟩
  | 138 => some ⟨false, 1, 8, [.nilFunc], 0, [], none, 0⟩
  | 139 => some ⟨false, 1, 8, [.int .i64 0], 0, [], some .i64, 0⟩
  | 141 => some ⟨false, 1, 8, [.nilFunc], 0, [], none, 0⟩
  | 142 => some ⟨false, 1, 8, [.nilFunc], 0, [], none, 0⟩
  | 143 => some ⟨false, 1, 8, [.nilFunc], 0, [], none, 0⟩
  | 144 => some ⟨false, 1, 24, [.slice none 0 0], 112, [], none, 2⟩
  | 145 => some ⟨false, 1, 8, [.nilFunc], 0, [], none, 0⟩
  | 146 => some ⟨true, 5, 56, [.string ⟨#[]⟩, .int .i64 0, .int .i64 0, .float .f64 0, .string ⟨#[]⟩], 0, [(0, 1), (1, 4)], none, 1⟩
  | 147 => some ⟨true, 5, 56, [.string ⟨#[]⟩, .int .i64 0, .int .i64 0, .float .f64 0, .string ⟨#[]⟩], 0, [(0, 1), (1, 4)], none, 1⟩
  | 148 => some ⟨false, 1, 8, [.nilFunc], 0, [], none, 0⟩
  | 149 => some ⟨false, 1, 8, [.nilFunc], 0, [], none, 0⟩
  | 150 => some ⟨false, 1, 8, [.nilFunc], 0, [], none, 0⟩
  | 151 => some ⟨false, 1, 8, [.nilFunc], 0, [], none, 0⟩
  | 152 => some ⟨false, 1, 8, [.nilFunc], 0, [], none, 0⟩
  | 153 => some ⟨false, 1, 8, [.nilFunc], 0, [], none, 0⟩
  | 154 => some ⟨false, 1, 8, [.nilFunc], 0, [], none, 0⟩
  | 155 => some ⟨false, 1, 8, [.nilFunc], 0, [], none, 0⟩
  | 156 => some ⟨false, 1, 8, [.nilFunc], 0, [], none, 0⟩
  | 157 => some ⟨false, 1, 8, [.nilFunc], 0, [], none, 0⟩
  | 158 => some ⟨false, 1, 8, [.nilFunc], 0, [], none, 0⟩
  | 159 => some ⟨false, 1, 4, [.int .u32 0], 0, [], some .u32, 0⟩
  | 161 => some ⟨false, 1, 8, [.nilFunc], 0, [], none, 0⟩
  | 162 => some ⟨false, 1, 8, [.int .u64 0], 0, [], some .u64, 0⟩
  | 164 => some ⟨false, 1, 8, [.nilFunc], 0, [], none, 0⟩
  | 165 => some ⟨false, 1, 8, [.nilFunc], 0, [], none, 0⟩
  | 166 => some ⟨true, 3, 24, [.int .i64 0, .bool false, .nilFunc], 0, [(0, 1), (1, 1), (2, 1)], none, 1⟩
  | 167 => some ⟨true, 3, 24, [.int .i64 0, .bool false, .nilFunc], 0, [(0, 1), (1, 1), (2, 1)], none, 1⟩
  | 168 => some ⟨false, 1, 8, [.map none], 0, [], none, 4⟩
  | 169 => some ⟨false, 1, 8, [.nilFunc], 0, [], none, 0⟩
  | 173 => some ⟨false, 1, 8, [.pointer none], 0, [], none, 0⟩
  | 174 => some ⟨true, 2, 32, [.slice none 0 0, .bool false], 0, [(0, 1), (1, 1)], none, 1⟩
  | 175 => some ⟨true, 2, 32, [.slice none 0 0, .bool false], 0, [(0, 1), (1, 1)], none, 1⟩
  | 176 => some ⟨false, 1, 8, [.nilFunc], 0, [], none, 0⟩
  | 177 => some ⟨false, 1, 8, [.nilFunc], 0, [], none, 0⟩
  | 178 => some ⟨false, 1, 8, [.nilFunc], 0, [], none, 0⟩
  | 179 => some ⟨false, 1, 8, [.nilFunc], 0, [], none, 0⟩
  | 180 => some ⟨false, 1, 8, [.nilFunc], 0, [], none, 0⟩
  | 181 => some ⟨false, 1, 8, [.nilFunc], 0, [], none, 0⟩
  | 182 => some ⟨false, 1, 8, [.nilFunc], 0, [], none, 0⟩
  | 183 => some ⟨false, 1, 8, [.nilFunc], 0, [], none, 0⟩
  | 184 => some ⟨false, 1, 8, [.pointer none], 0, [], none, 0⟩
  | 185 => some ⟨true, 2, 2, [.bool false, .bool false], 0, [(0, 1), (1, 1)], none, 1⟩
  | 186 => some ⟨true, 2, 2, [.bool false, .bool false], 0, [(0, 1), (1, 1)], none, 1⟩
  | 187 => some ⟨false, 1, 8, [.nilFunc], 0, [], none, 0⟩
  | 189 => some ⟨false, 1, 8, [.nilFunc], 0, [], none, 0⟩
  | 190 => some ⟨false, 1, 8, [.nilFunc], 0, [], none, 0⟩
  | 191 => some ⟨false, 1, 8, [.nilFunc], 0, [], none, 0⟩
  | 192 => some ⟨false, 1, 24, [.slice none 0 0], 28, [], none, 2⟩
  | 193 => some ⟨false, 1, 8, [.nilFunc], 0, [], none, 0⟩
  | 194 => some ⟨false, 1, 8, [.nilFunc], 0, [], none, 0⟩
  | 195 => some ⟨false, 1, 8, [.nilFunc], 0, [], none, 0⟩
  | 196 => some ⟨false, 1, 8, [.int .i64 0], 0, [], some .i64, 0⟩
  | 198 => some ⟨false, 1, 8, [.nilFunc], 0, [], none, 0⟩
  | 199 => some ⟨false, 1, 8, [.nilFunc], 0, [], none, 0⟩
  | 200 => some ⟨false, 1, 8, [.nilFunc], 0, [], none, 0⟩
  | 201 => some ⟨false, 1, 8, [.nilFunc], 0, [], none, 0⟩
  | 202 => some ⟨false, 1, 8, [.nilFunc], 0, [], none, 0⟩
  | 203 => some ⟨false, 1, 8, [.nilFunc], 0, [], none, 0⟩
  | 204 => some ⟨false, 1, 8, [.nilFunc], 0, [], none, 0⟩
  | 205 => some ⟨false, 1, 8, [.nilFunc], 0, [], none, 0⟩
  | 206 => some ⟨false, 1, 8, [.nilFunc], 0, [], none, 0⟩
  | 207 => some ⟨false, 1, 8, [.nilFunc], 0, [], none, 0⟩
  | 208 => some ⟨false, 1, 8, [.nilFunc], 0, [], none, 0⟩
  | 209 => some ⟨false, 1, 8, [.nilFunc], 0, [], none, 0⟩
  | 210 => some ⟨false, 1, 8, [.nilFunc], 0, [], none, 0⟩
  | 211 => some ⟨false, 1, 8, [.nilFunc], 0, [], none, 0⟩
  | 212 => some ⟨false, 1, 8, [.nilFunc], 0, [], none, 0⟩
  | 213 => some ⟨false, 1, 8, [.nilFunc], 0, [], none, 0⟩
  | 214 => some ⟨false, 1, 8, [.nilFunc], 0, [], none, 0⟩
  | 215 => some ⟨false, 1, 24, [.slice none 0 0], 139, [], none, 2⟩
  | _ => none
theorem zmE : ∀ t i, Ty1 t = some i → TyOK Tryz.prog t i := by
  intro t i h
  unfold Ty1 at h
  split at h <;> first
    | (cases h; done)
    | (injection h with h; subst h; exact ⟨by kernel_rfl, by kernel_rfl, by kernel_rfl, by kernel_rfl, by kernel_rfl, by kernel_rfl, by kernel_rfl, by kernel_rfl, rfl, rfl, by decide, by decide, fun h => by first | rfl | cases h⟩)
def Ty2 : TypeId → Option TyI
  | 216 => some ⟨false, 1, 8, [.nilFunc], 0, [], none, 0⟩
  | 217 => some ⟨false, 1, 8, [.nilFunc], 0, [], none, 0⟩
  | 218 => some ⟨false, 1, 8, [.nilFunc], 0, [], none, 0⟩
  | 219 => some ⟨false, 1, 8, [.nilFunc], 0, [], none, 0⟩
  | 220 => some ⟨false, 1, 8, [.nilFunc], 0, [], none, 0⟩
  | 221 => some ⟨false, 1, 8, [.int .u64 0], 0, [], some .u64, 0⟩
  | 222 => some ⟨false, 1, 8, [.nilFunc], 0, [], none, 0⟩
  | 223 => some ⟨false, 1, 8, [.nilFunc], 0, [], none, 0⟩
  | 224 => some ⟨false, 1, 8, [.nilFunc], 0, [], none, 0⟩
  | 225 => some ⟨false, 1, 8, [.pointer none], 0, [], none, 0⟩
  | 226 => some ⟨false, 1, 8, [.nilFunc], 0, [], none, 0⟩
  | 228 => some ⟨false, 1, 8, [.nilFunc], 0, [], none, 0⟩
  | 230 => some ⟨false, 1, 8, [.nilFunc], 0, [], none, 0⟩
  | 231 => some ⟨false, 1, 8, [.nilFunc], 0, [], none, 0⟩
  | 232 => some ⟨false, 1, 8, [.nilFunc], 0, [], none, 0⟩
  | 233 => some ⟨false, 1, 8, [.nilFunc], 0, [], none, 0⟩
  | 235 => some ⟨false, 1, 8, [.map none], 0, [], none, 4⟩
  | 236 => some ⟨false, 1, 8, [.nilFunc], 0, [], none, 0⟩
  | 237 => some ⟨false, 1, 8, [.nilFunc], 0, [], none, 0⟩
  | 238 => some ⟨false, 1, 8, [.pointer none], 0, [], none, 0⟩
  | 240 => some ⟨false, 1, 8, [.nilFunc], 0, [], none, 0⟩
  | 241 => some ⟨false, 1, 8, [.nilFunc], 0, [], none, 0⟩
  | 242 => some ⟨false, 1, 8, [.nilFunc], 0, [], none, 0⟩
  | 243 => some ⟨false, 1, 8, [.nilFunc], 0, [], none, 0⟩
  | 244 => some ⟨false, 1, 8, [.nilFunc], 0, [], none, 0⟩
  | 245 => some ⟨false, 1, 8, [.nilFunc], 0, [], none, 0⟩
  | 247 => some ⟨false, 1, 8, [.nilFunc], 0, [], none, 0⟩
  | 248 => some ⟨false, 1, 8, [.nilFunc], 0, [], none, 0⟩
  | 249 => some ⟨false, 1, 8, [.nilFunc], 0, [], none, 0⟩
  | 250 => some ⟨false, 1, 8, [.nilFunc], 0, [], none, 0⟩
  | 252 => some ⟨false, 1, 8, [.nilFunc], 0, [], none, 0⟩
  | 253 => some ⟨false, 1, 8, [.nilFunc], 0, [], none, 0⟩
  | 254 => some ⟨false, 1, 8, [.nilFunc], 0, [], none, 0⟩
  | 255 => some ⟨true, 4, 40, [.pointer none, .pointer none, .pointer none, .string ⟨#[]⟩], 0, [(0, 1), (1, 1), (2, 1), (3, 1)], none, 1⟩
  | 256 => some ⟨true, 4, 40, [.pointer none, .pointer none, .pointer none, .string ⟨#[]⟩], 0, [(0, 1), (1, 1), (2, 1), (3, 1)], none, 1⟩
  | 260 => some ⟨false, 1, 1, [.int .u8 0], 0, [], some .u8, 0⟩
  | 261 => some ⟨false, 1, 1, [.int .u8 0], 0, [], some .u8, 0⟩
  | 262 => some ⟨false, 1, 8, [.nilFunc], 0, [], none, 0⟩
  | 263 => some ⟨false, 1, 8, [.pointer none], 0, [], none, 0⟩
  | 264 => some ⟨false, 1, 4, [.int .i32 0], 0, [], some .i32, 0⟩
  | 265 => some ⟨false, 1, 4, [.int .i32 0], 0, [], some .i32, 0⟩
  | 266 => some ⟨true, 11, 48, [.int .u64 0, .int .u64 0, .int .u32 0, .int .u8 0, .int .u8 0, .int .u8 0, .int .u8 0, .nilFunc, .pointer none, .int .i32 0, .int .i32 0], 0, [(0, 1), (1, 1), (2, 1), (3, 1), (4, 1), (5, 1), (6, 1), (7, 1), (8, 1), (9, 1), (10, 1)], none, 1⟩
  | 267 => some ⟨true, 11, 48, [.int .u64 0, .int .u64 0, .int .u32 0, .int .u8 0, .int .u8 0, .int .u8 0, .int .u8 0, .nilFunc, .pointer none, .int .i32 0, .int .i32 0], 0, [(0, 1), (1, 1), (2, 1), (3, 1), (4, 1), (5, 1), (6, 1), (7, 1), (8, 1), (9, 1), (10, 1)], none, 1⟩
  | 268 => some ⟨false, 1, 24, [.slice none 0 0], 273, [], none, 2⟩
  | 270 => some ⟨true, 2, 16, [.int .i64 0, .int .i64 0], 0, [(0, 1), (1, 1)], none, 1⟩
  | 271 => some ⟨true, 2, 16, [.int .i64 0, .int .i64 0], 0, [(0, 1), (1, 1)], none, 1⟩
  | 272 => some ⟨true, 3, 24, [.int .i64 0, .int .i64 0, .int .i64 0], 0, [(0, 2), (2, 1)], none, 1⟩
  | 273 => some ⟨true, 3, 24, [.int .i64 0, .int .i64 0, .int .i64 0], 0, [(0, 2), (2, 1)], none, 1⟩
  | _ => none
theorem zmA : ∀ t i, Ty2 t = some i → TyOK Tryz.prog t i := by
  intro t i h
  unfold Ty2 at h
  split at h <;> first
    | (cases h; done)
    | (injection h with h; subst h; exact ⟨by kernel_rfl, by kernel_rfl, by kernel_rfl, by kernel_rfl, by kernel_rfl, by kernel_rfl, by kernel_rfl, by kernel_rfl, rfl, rfl, by decide, by decide, fun h => by first | rfl | cases h⟩)
def Ty (t : TypeId) : Option TyI := match Ty0 t with | some i => some i | none => match Ty1 t with | some i => some i | none => Ty2 t
theorem zag : ∀ t i, Ty t = some i → TyOK Tryz.prog t i := by
  intro t i h
  unfold Ty at h
  split at h
  · rename_i hk; injection h with h; subst h; exact zmn t _ hk
  split at h
  · rename_i hk; injection h with h; subst h; exact zmE t _ hk
  exact zmA t i h
end Go.Proofs.YtjhkehloipmjfaaGreat
