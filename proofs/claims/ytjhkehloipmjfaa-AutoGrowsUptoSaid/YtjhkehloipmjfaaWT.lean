/- The program's types, as far as the walks need them. Printed by wip/gen/ty.py. -/
import Derived.Test.YtjhkehloipmjfaaProg
import Derived.Test.YtjhkehloipmjfaaWE
namespace Go.Proofs.Ytjhkehloipmjfaa
open Go.RowKit
def Ty0 : TypeId → Option TyI
  | 1 => some ⟨false, 1, 8, [.nilFunc], 0, [], none, 0⟩
  | 2 => some ⟨false, 1, 8, [.int .i64 0], 0, [], some .i64, 0⟩
  | 3 => some ⟨false, 1, 8, [.int .i64 0], 0, [], some .i64, 0⟩
  | 4 => some ⟨false, 1, 1, [.bool false], 0, [], none, 5⟩
  | 5 => some ⟨false, 1, 1, [.int .u8 0], 0, [], some .u8, 0⟩
  | 6 => some ⟨false, 1, 1, [.int .u8 0], 0, [], some .u8, 0⟩
  | 7 => some ⟨true, 4, 24, [.int .i64 0, .int .i64 0, .bool false, .int .u8 0], 0, [(0, 1), (1, 1), (2, 1), (3, 1)], none, 1⟩
  | 8 => some ⟨true, 4, 24, [.int .i64 0, .int .i64 0, .bool false, .int .u8 0], 0, [(0, 1), (1, 1), (2, 1), (3, 1)], none, 1⟩
  | 9 => some ⟨false, 1, 16, [.string ⟨#[]⟩], 0, [], none, 3⟩
  | 10 => some ⟨false, 1, 16, [.string ⟨#[]⟩], 0, [], none, 3⟩
  | 11 => some ⟨false, 1, 16, [.string ⟨#[]⟩], 0, [], none, 3⟩
  | 12 => some ⟨false, 1, 8, [.int .u64 0], 0, [], some .u64, 0⟩
  | 13 => some ⟨true, 2, 24, [.string ⟨#[]⟩, .int .u64 0], 0, [(0, 1), (1, 1)], none, 1⟩
  | 14 => some ⟨true, 2, 24, [.string ⟨#[]⟩, .int .u64 0], 0, [(0, 1), (1, 1)], none, 1⟩
  | 15 => some ⟨false, 1, 8, [.pointer none], 0, [], none, 0⟩
  | 16 => some ⟨false, 1, 8, [.pointer none], 0, [], none, 0⟩
  | 17 => some ⟨false, 1, 8, [.pointer none], 0, [], none, 0⟩
  | 18 => some ⟨true, 1, 8, [.pointer none], 0, [(0, 1)], none, 1⟩
  | 19 => some ⟨true, 1, 8, [.pointer none], 0, [(0, 1)], none, 1⟩
  | 21 => some ⟨false, 1, 4, [.int .i32 0], 0, [], some .i32, 0⟩
  | 22 => some ⟨false, 1, 8, [.float .f64 0], 0, [], none, 0⟩
  | 23 => some ⟨true, 4, 40, [.int .i64 0, .int .i64 0, .float .f64 0, .string ⟨#[]⟩], 0, [(0, 1), (1, 1), (2, 1), (3, 1)], none, 1⟩
  | 24 => some ⟨true, 4, 40, [.int .i64 0, .int .i64 0, .float .f64 0, .string ⟨#[]⟩], 0, [(0, 1), (1, 1), (2, 1), (3, 1)], none, 1⟩
  | 25 => some ⟨false, 1, 24, [.slice none 0 0], 27, [], none, 2⟩
  | 26 => some ⟨true, 7, 88, [.int .i64 0, .string ⟨#[]⟩, .int .i64 0, .int .i64 0, .float .f64 0, .string ⟨#[]⟩, .slice none 0 0], 0, [(0, 1), (1, 1), (2, 4), (6, 1)], none, 1⟩
  | 27 => some ⟨true, 7, 88, [.int .i64 0, .string ⟨#[]⟩, .int .i64 0, .int .i64 0, .float .f64 0, .string ⟨#[]⟩, .slice none 0 0], 0, [(0, 1), (1, 1), (2, 4), (6, 1)], none, 1⟩
  | 28 => some ⟨false, 1, 24, [.slice none 0 0], 47, [], none, 2⟩
  | 29 => some ⟨false, 1, 8, [.nilFunc], 0, [], none, 0⟩
  | 30 => some ⟨false, 1, 8, [.nilFunc], 0, [], none, 0⟩
  | 31 => some ⟨false, 1, 8, [.nilFunc], 0, [], none, 0⟩
  | 32 => some ⟨false, 1, 8, [.int .i64 0], 0, [], some .i64, 0⟩
  | 34 => some ⟨false, 1, 8, [.nilFunc], 0, [], none, 0⟩
  | 35 => some ⟨false, 1, 8, [.nilFunc], 0, [], none, 0⟩
  | 36 => some ⟨false, 1, 8, [.nilFunc], 0, [], none, 0⟩
  | 37 => some ⟨false, 1, 8, [.nilFunc], 0, [], none, 0⟩
  | 38 => some ⟨false, 1, 8, [.nilFunc], 0, [], none, 0⟩
  | 39 => some ⟨false, 1, 8, [.nilFunc], 0, [], none, 0⟩
  | 40 => some ⟨false, 1, 8, [.nilFunc], 0, [], none, 0⟩
  | 41 => some ⟨false, 1, 24, [.slice none 0 0], 9, [], none, 2⟩
  | 42 => some ⟨false, 1, 8, [.nilFunc], 0, [], none, 0⟩
  | 44 => some ⟨false, 1, 8, [.nilFunc], 0, [], none, 0⟩
  | 45 => some ⟨false, 1, 24, [.slice none 0 0], 4, [], none, 2⟩
  | 46 => some ⟨true, 5, 56, [.string ⟨#[]⟩, .int .i64 0, .int .i64 0, .float .f64 0, .string ⟨#[]⟩], 0, [(0, 1), (1, 4)], none, 1⟩
  | 47 => some ⟨true, 5, 56, [.string ⟨#[]⟩, .int .i64 0, .int .i64 0, .float .f64 0, .string ⟨#[]⟩], 0, [(0, 1), (1, 4)], none, 1⟩
  | 48 => some ⟨false, 1, 8, [.nilFunc], 0, [], none, 0⟩
  | 49 => some ⟨false, 1, 8, [.nilFunc], 0, [], none, 0⟩
  | 50 => some ⟨false, 1, 8, [.nilFunc], 0, [], none, 0⟩
  | 51 => some ⟨false, 1, 24, [.slice none 0 0], 53, [], none, 2⟩
  | 52 => some ⟨true, 20, 248, [.int .i64 0, .string ⟨#[]⟩, .int .i64 0, .int .i64 0, .string ⟨#[]⟩, .int .i64 0, .int .i64 0, .float .f64 0, .string ⟨#[]⟩, .slice none 0 0, .int .i64 0, .string ⟨#[]⟩, .int .i64 0, .int .i64 0, .float .f64 0, .string ⟨#[]⟩, .slice none 0 0, .int .i64 0, .int .i64 0, .slice none 0 0], 0, [(0, 1), (1, 1), (2, 1), (3, 7), (10, 7), (17, 1), (18, 1), (19, 1)], none, 1⟩
  | 53 => some ⟨true, 20, 248, [.int .i64 0, .string ⟨#[]⟩, .int .i64 0, .int .i64 0, .string ⟨#[]⟩, .int .i64 0, .int .i64 0, .float .f64 0, .string ⟨#[]⟩, .slice none 0 0, .int .i64 0, .string ⟨#[]⟩, .int .i64 0, .int .i64 0, .float .f64 0, .string ⟨#[]⟩, .slice none 0 0, .int .i64 0, .int .i64 0, .slice none 0 0], 0, [(0, 1), (1, 1), (2, 1), (3, 7), (10, 7), (17, 1), (18, 1), (19, 1)], none, 1⟩
  | 54 => some ⟨false, 1, 8, [.nilFunc], 0, [], none, 0⟩
  | 55 => some ⟨false, 1, 8, [.nilFunc], 0, [], none, 0⟩
  | 56 => some ⟨true, 23, 272, [.int .i64 0, .int .i64 0, .int .i64 0, .int .i64 0, .string ⟨#[]⟩, .int .i64 0, .int .i64 0, .string ⟨#[]⟩, .int .i64 0, .int .i64 0, .float .f64 0, .string ⟨#[]⟩, .slice none 0 0, .int .i64 0, .string ⟨#[]⟩, .int .i64 0, .int .i64 0, .float .f64 0, .string ⟨#[]⟩, .slice none 0 0, .int .i64 0, .int .i64 0, .slice none 0 0], 0, [(0, 1), (1, 1), (2, 1), (3, 20)], none, 1⟩
  | 57 => some ⟨true, 23, 272, [.int .i64 0, .int .i64 0, .int .i64 0, .int .i64 0, .string ⟨#[]⟩, .int .i64 0, .int .i64 0, .string ⟨#[]⟩, .int .i64 0, .int .i64 0, .float .f64 0, .string ⟨#[]⟩, .slice none 0 0, .int .i64 0, .string ⟨#[]⟩, .int .i64 0, .int .i64 0, .float .f64 0, .string ⟨#[]⟩, .slice none 0 0, .int .i64 0, .int .i64 0, .slice none 0 0], 0, [(0, 1), (1, 1), (2, 1), (3, 20)], none, 1⟩
  | 58 => some ⟨false, 1, 8, [.nilFunc], 0, [], none, 0⟩
  | 59 => some ⟨false, 1, 8, [.nilFunc], 0, [], none, 0⟩
  | 60 => some ⟨false, 1, 24, [.slice none 0 0], 108, [], none, 2⟩
  | 61 => some ⟨true, 3, 56, [.slice none 0 0, .slice none 0 0, .int .i64 0], 0, [(0, 1), (1, 1), (2, 1)], none, 1⟩
  | 62 => some ⟨true, 3, 56, [.slice none 0 0, .slice none 0 0, .int .i64 0], 0, [(0, 1), (1, 1), (2, 1)], none, 1⟩
  | 63 => some ⟨false, 1, 8, [.nilFunc], 0, [], none, 0⟩
  | 64 => some ⟨false, 1, 24, [.slice none 0 0], 73, [], none, 2⟩
  | 65 => some ⟨true, 3, 56, [.slice none 0 0, .slice none 0 0, .int .i64 0], 0, [(0, 1), (1, 1), (2, 1)], none, 1⟩
  | 66 => some ⟨true, 3, 56, [.slice none 0 0, .slice none 0 0, .int .i64 0], 0, [(0, 1), (1, 1), (2, 1)], none, 1⟩
  | 67 => some ⟨false, 1, 8, [.nilFunc], 0, [], none, 0⟩
  | 68 => some ⟨false, 1, 8, [.nilFunc], 0, [], none, 0⟩
  | 69 => some ⟨false, 1, 8, [.nilFunc], 0, [], none, 0⟩
  | 71 => some ⟨false, 1, 8, [.nilFunc], 0, [], none, 0⟩
  | 72 => some ⟨true, 3, 24, [.int .i64 0, .int .i64 0, .int .i64 0], 0, [(0, 1), (1, 1), (2, 1)], none, 1⟩
  | 73 => some ⟨true, 3, 24, [.int .i64 0, .int .i64 0, .int .i64 0], 0, [(0, 1), (1, 1), (2, 1)], none, 1⟩
  | 74 => some ⟨false, 1, 8, [.nilFunc], 0, [], none, 0⟩
  | 75 => some ⟨false, 1, 24, [.slice none 0 0], 143, [], none, 2⟩
  | 76 => some ⟨false, 1, 24, [.slice none 0 0], 146, [], none, 2⟩
  | 77 => some ⟨true, 2, 48, [.slice none 0 0, .slice none 0 0], 0, [(0, 1), (1, 1)], none, 1⟩
  | 78 => some ⟨true, 2, 48, [.slice none 0 0, .slice none 0 0], 0, [(0, 1), (1, 1)], none, 1⟩
  | 79 => some ⟨false, 1, 8, [.nilFunc], 0, [], none, 0⟩
  | 80 => some ⟨false, 1, 24, [.slice none 0 0], 45, [], none, 2⟩
  | 81 => some ⟨false, 1, 24, [.slice none 0 0], 4, [], none, 2⟩
  | 82 => some ⟨false, 1, 8, [.nilFunc], 0, [], none, 0⟩
  | 83 => some ⟨false, 1, 8, [.nilFunc], 0, [], none, 0⟩
  | 84 => some ⟨false, 1, 8, [.nilFunc], 0, [], none, 0⟩
  | 85 => some ⟨false, 1, 8, [.nilFunc], 0, [], none, 0⟩
  | 86 => some ⟨false, 1, 8, [.nilFunc], 0, [], none, 0⟩
  | 87 => some ⟨false, 1, 8, [.nilFunc], 0, [], none, 0⟩
  | 91 => some ⟨false, 1, 8, [.pointer none], 0, [], none, 0⟩
  | 92 => some ⟨true, 2, 32, [.slice none 0 0, .bool false], 0, [(0, 1), (1, 1)], none, 1⟩
  | 93 => some ⟨true, 2, 32, [.slice none 0 0, .bool false], 0, [(0, 1), (1, 1)], none, 1⟩
  | 94 => some ⟨false, 1, 8, [.nilFunc], 0, [], none, 0⟩
  | 95 => some ⟨false, 1, 8, [.int .u64 0], 0, [], some .u64, 0⟩
  | 96 => some ⟨false, 1, 8, [.nilFunc], 0, [], none, 0⟩
  | 97 => some ⟨false, 1, 8, [.nilFunc], 0, [], none, 0⟩
  | 98 => some ⟨false, 1, 8, [.int .i64 0], 0, [], some .i64, 0⟩
  | 100 => some ⟨false, 1, 8, [.nilFunc], 0, [], none, 0⟩
  | 101 => some ⟨false, 1, 8, [.nilFunc], 0, [], none, 0⟩
  | 102 => some ⟨false, 1, 8, [.nilFunc], 0, [], none, 0⟩
  | 103 => some ⟨false, 1, 8, [.nilFunc], 0, [], none, 0⟩
  | 104 => some ⟨true, 2, 16, [.int .i64 0, .int .i64 0], 0, [(0, 1), (1, 1)], none, 1⟩
  | 105 => some ⟨true, 2, 16, [.int .i64 0, .int .i64 0], 0, [(0, 1), (1, 1)], none, 1⟩
  | 106 => some ⟨false, 1, 8, [.nilFunc], 0, [], none, 0⟩
  | 107 => some ⟨false, 1, 8, [.nilFunc], 0, [], none, 0⟩
  | 108 => some ⟨true, 3, 24, [.int .i64 0, .int .i64 0, .int .i64 0], 0, [(0, 1), (1, 1), (2, 1)], none, 1⟩
  | _ => none
set_option maxRecDepth 100000 in
theorem ty_ok0 : ∀ t i, Ty0 t = some i → TyOK Try.prog t i := by
  intro t i h
  unfold Ty0 at h
  split at h <;> first
    | (cases h; done)
    | (injection h with h; subst h; exact ⟨by kernel_rfl, by kernel_rfl, by kernel_rfl, by kernel_rfl, by kernel_rfl, by kernel_rfl, by kernel_rfl, by kernel_rfl, rfl, rfl, by decide, by decide, fun h => by first | rfl | cases h⟩)
def Ty1 : TypeId → Option TyI
  | 109 => some ⟨false, 1, 8, [.nilFunc], 0, [], none, 0⟩
  | 110 => some ⟨false, 1, 8, [.nilFunc], 0, [], none, 0⟩
  | 111 => some ⟨false, 1, 8, [.pointer none], 0, [], none, 0⟩
  | 112 => some ⟨false, 1, 8, [.nilFunc], 0, [], none, 0⟩
  | 113 => some ⟨false, 1, 24, [.slice none 0 0], 3, [], none, 2⟩
  | 114 => some ⟨false, 1, 8, [.nilFunc], 0, [], none, 0⟩
  | 115 => some ⟨false, 1, 8, [.nilFunc], 0, [], none, 0⟩
  | 116 => some ⟨false, 1, 8, [.nilFunc], 0, [], none, 0⟩
  | 117 => some ⟨false, 1, 8, [.nilFunc], 0, [], none, 0⟩
  | 118 => some ⟨false, 1, 8, [.nilFunc], 0, [], none, 0⟩
  | 119 => some ⟨false, 1, 8, [.nilFunc], 0, [], none, 0⟩
  | 120 => some ⟨false, 1, 8, [.nilFunc], 0, [], none, 0⟩
  | 121 => some ⟨false, 1, 8, [.nilFunc], 0, [], none, 0⟩
  | 122 => some ⟨false, 1, 24, [.slice none 0 0], 24, [], none, 2⟩
  | 123 => some ⟨false, 1, 8, [.nilFunc], 0, [], none, 0⟩
  | 124 => some ⟨false, 1, 8, [.nilFunc], 0, [], none, 0⟩
  | 125 => some ⟨false, 1, 8, [.nilFunc], 0, [], none, 0⟩
  | 126 => some ⟨false, 1, 8, [.nilFunc], 0, [], none, 0⟩
  | 127 => some ⟨false, 1, 8, [.nilFunc], 0, [], none, 0⟩
  | 128 => some ⟨false, 1, 8, [.nilFunc], 0, [], none, 0⟩
  | 129 => some ⟨false, 1, 8, [.nilFunc], 0, [], none, 0⟩
  | 130 => some ⟨false, 1, 8, [.nilFunc], 0, [], none, 0⟩
  | 131 => some ⟨false, 1, 8, [.nilFunc], 0, [], none, 0⟩
  | 132 => some ⟨false, 1, 8, [.nilFunc], 0, [], none, 0⟩
  | 133 => some ⟨false, 1, 8, [.pointer none], 0, [], none, 0⟩
  | 134 => some ⟨false, 1, 8, [.nilFunc], 0, [], none, 0⟩
  | 135 => some ⟨false, 1, 8, [.nilFunc], 0, [], none, 0⟩
  | 136 => some ⟨false, 1, 8, [.pointer none], 0, [], none, 0⟩
  | 137 => some ⟨false, 1, 8, [.nilFunc], 0, [], none, 0⟩
  | 138 => some ⟨false, 1, 8, [.map none], 0, [], none, 4⟩
  | 139 => some ⟨false, 1, 24, [.slice none 0 0], 230, [], none, 2⟩
  | 140 => some ⟨true, 5, 88, [.slice none 0 0, .slice none 0 0, .map none, .map none, .slice none 0 0], 0, [(0, 2), (2, 1), (3, 1), (4, 1)], none, 1⟩
  | 141 => some ⟨true, 5, 88, [.slice none 0 0, .slice none 0 0, .map none, .map none, .slice none 0 0], 0, [(0, 2), (2, 1), (3, 1), (4, 1)], none, 1⟩
  | 142 => some ⟨true, 3, 64, [.string ⟨#[]⟩, .slice none 0 0, .slice none 0 0], 0, [(0, 1), (1, 1), (2, 1)], none, 1⟩
  | 143 => some ⟨true, 3, 64, [.string ⟨#[]⟩, .slice none 0 0, .slice none 0 0], 0, [(0, 1), (1, 1), (2, 1)], none, 1⟩
  | 144 => some ⟨false, 1, 8, [.nilFunc], 0, [], none, 0⟩
  | 145 => some ⟨true, 6, 88, [.string ⟨#[]⟩, .int .i64 0, .int .i64 0, .bool false, .slice none 0 0, .slice none 0 0], 0, [(0, 1), (1, 1), (2, 1), (3, 1), (4, 1), (5, 1)], none, 1⟩
  | 146 => some ⟨true, 6, 88, [.string ⟨#[]⟩, .int .i64 0, .int .i64 0, .bool false, .slice none 0 0, .slice none 0 0], 0, [(0, 1), (1, 1), (2, 1), (3, 1), (4, 1), (5, 1)], none, 1⟩
  | 147 => some ⟨false, 1, 8, [.nilFunc], 0, [], none, 0⟩
  | 148 => some ⟨false, 1, 8, [.nilFunc], 0, [], none, 0⟩
  | 149 => some ⟨false, 1, 8, [.nilFunc], 0, [], none, 0⟩
  | 150 => some ⟨false, 1, 8, [.nilFunc], 0, [], none, 0⟩
  | 151 => some ⟨false, 1, 24, [.slice none 0 0], 98, [], none, 2⟩
  | 152 => some ⟨false, 1, 8, [.nilFunc], 0, [], none, 0⟩
  | 153 => some ⟨false, 1, 8, [.nilFunc], 0, [], none, 0⟩
  | 154 => some ⟨false, 1, 8, [.nilFunc], 0, [], none, 0⟩
  | 155 => some ⟨false, 1, 8, [.nilFunc], 0, [], none, 0⟩
  | 156 => some ⟨false, 1, 8, [.nilFunc], 0, [], none, 0⟩
  | 158 => some ⟨false, 1, 8, [.nilFunc], 0, [], none, 0⟩
  | 159 => some ⟨false, 1, 8, [.nilFunc], 0, [], none, 0⟩
  | 160 => some ⟨false, 1, 8, [.nilFunc], 0, [], none, 0⟩
  | 161 => some ⟨false, 1, 8, [.nilFunc], 0, [], none, 0⟩
  | 162 => some ⟨false, 1, 8, [.int .u64 0], 0, [], some .u64, 0⟩
  | 163 => some ⟨false, 1, 8, [.nilFunc], 0, [], none, 0⟩
  | 164 => some ⟨false, 1, 8, [.nilFunc], 0, [], none, 0⟩
  | 165 => some ⟨false, 1, 8, [.nilFunc], 0, [], none, 0⟩
  | 167 => some ⟨false, 1, 8, [.nilFunc], 0, [], none, 0⟩
  | 168 => some ⟨false, 1, 8, [.nilFunc], 0, [], none, 0⟩
  | 169 => some ⟨false, 1, 8, [.nilFunc], 0, [], none, 0⟩
  | 171 => some ⟨false, 1, 8, [.map none], 0, [], none, 4⟩
  | 172 => some ⟨false, 1, 8, [.nilFunc], 0, [], none, 0⟩
  | 174 => some ⟨false, 1, 8, [.nilFunc], 0, [], none, 0⟩
  | 175 => some ⟨false, 1, 8, [.nilFunc], 0, [], none, 0⟩
  | 176 => some ⟨false, 1, 8, [.nilFunc], 0, [], none, 0⟩
  | 177 => some ⟨false, 1, 8, [.int .i64 0], 0, [], some .i64, 0⟩
  | 179 => some ⟨false, 1, 8, [.nilFunc], 0, [], none, 0⟩
  | 180 => some ⟨false, 1, 8, [.nilFunc], 0, [], none, 0⟩
  | 181 => some ⟨false, 1, 8, [.nilFunc], 0, [], none, 0⟩
  | 182 => some ⟨false, 1, 8, [.nilFunc], 0, [], none, 0⟩
  | 183 => some ⟨false, 1, 8, [.nilFunc], 0, [], none, 0⟩
  | 184 => some ⟨false, 1, 8, [.nilFunc], 0, [], none, 0⟩
  | 185 => some ⟨false, 1, 4, [.int .u32 0], 0, [], some .u32, 0⟩
  | 186 => some ⟨false, 1, 8, [.nilFunc], 0, [], none, 0⟩
  | 187 => some ⟨false, 1, 8, [.nilFunc], 0, [], none, 0⟩
  | 189 => some ⟨false, 1, 8, [.nilFunc], 0, [], none, 0⟩
  | 190 => some ⟨false, 1, 8, [.nilFunc], 0, [], none, 0⟩
  | 191 => some ⟨false, 1, 8, [.nilFunc], 0, [], none, 0⟩
  | 192 => some ⟨false, 1, 8, [.nilFunc], 0, [], none, 0⟩
  | 193 => some ⟨false, 1, 8, [.nilFunc], 0, [], none, 0⟩
  | 194 => some ⟨false, 1, 8, [.nilFunc], 0, [], none, 0⟩
  | 195 => some ⟨true, 3, 24, [.int .i64 0, .bool false, .nilFunc], 0, [(0, 1), (1, 1), (2, 1)], none, 1⟩
  | 196 => some ⟨true, 3, 24, [.int .i64 0, .bool false, .nilFunc], 0, [(0, 1), (1, 1), (2, 1)], none, 1⟩
  | 198 => some ⟨false, 1, 8, [.map none], 0, [], none, 4⟩
  | 199 => some ⟨false, 1, 8, [.nilFunc], 0, [], none, 0⟩
  | 200 => some ⟨false, 1, 8, [.int .u64 0], 0, [], some .u64, 0⟩
  | 201 => some ⟨false, 1, 8, [.nilFunc], 0, [], none, 0⟩
  | 202 => some ⟨false, 1, 8, [.nilFunc], 0, [], none, 0⟩
  | 203 => some ⟨false, 1, 8, [.nilFunc], 0, [], none, 0⟩
  | 204 => some ⟨false, 1, 8, [.pointer none], 0, [], none, 0⟩
  | 205 => some ⟨false, 1, 8, [.nilFunc], 0, [], none, 0⟩
  | 206 => some ⟨false, 1, 8, [.nilFunc], 0, [], none, 0⟩
  | 207 => some ⟨false, 1, 8, [.nilFunc], 0, [], none, 0⟩
  | 208 => some ⟨false, 1, 8, [.pointer none], 0, [], none, 0⟩
  | 209 => some ⟨false, 1, 8, [.nilFunc], 0, [], none, 0⟩
  | 210 => some ⟨false, 1, 8, [.nilFunc], 0, [], none, 0⟩
  | 211 => some ⟨false, 1, 8, [.nilFunc], 0, [], none, 0⟩
  | 213 => some ⟨false, 1, 8, [.nilFunc], 0, [], none, 0⟩
  | 214 => some ⟨false, 1, 8, [.nilFunc], 0, [], none, 0⟩
  | 215 => some ⟨false, 1, 8, [.nilFunc], 0, [], none, 0⟩
  | 216 => some ⟨true, 4, 40, [.pointer none, .pointer none, .pointer none, .string ⟨#[]⟩], 0, [(0, 1), (1, 1), (2, 1), (3, 1)], none, 1⟩
  | _ => none
set_option maxRecDepth 100000 in
theorem ty_ok1 : ∀ t i, Ty1 t = some i → TyOK Try.prog t i := by
  intro t i h
  unfold Ty1 at h
  split at h <;> first
    | (cases h; done)
    | (injection h with h; subst h; exact ⟨by kernel_rfl, by kernel_rfl, by kernel_rfl, by kernel_rfl, by kernel_rfl, by kernel_rfl, by kernel_rfl, by kernel_rfl, rfl, rfl, by decide, by decide, fun h => by first | rfl | cases h⟩)
def Ty2 : TypeId → Option TyI
  | 217 => some ⟨true, 4, 40, [.pointer none, .pointer none, .pointer none, .string ⟨#[]⟩], 0, [(0, 1), (1, 1), (2, 1), (3, 1)], none, 1⟩
  | 221 => some ⟨false, 1, 1, [.int .u8 0], 0, [], some .u8, 0⟩
  | 222 => some ⟨false, 1, 1, [.int .u8 0], 0, [], some .u8, 0⟩
  | 223 => some ⟨false, 1, 8, [.nilFunc], 0, [], none, 0⟩
  | 224 => some ⟨false, 1, 8, [.pointer none], 0, [], none, 0⟩
  | 225 => some ⟨false, 1, 4, [.int .i32 0], 0, [], some .i32, 0⟩
  | 226 => some ⟨false, 1, 4, [.int .i32 0], 0, [], some .i32, 0⟩
  | 227 => some ⟨true, 11, 48, [.int .u64 0, .int .u64 0, .int .u32 0, .int .u8 0, .int .u8 0, .int .u8 0, .int .u8 0, .nilFunc, .pointer none, .int .i32 0, .int .i32 0], 0, [(0, 1), (1, 1), (2, 1), (3, 1), (4, 1), (5, 1), (6, 1), (7, 1), (8, 1), (9, 1), (10, 1)], none, 1⟩
  | 228 => some ⟨true, 11, 48, [.int .u64 0, .int .u64 0, .int .u32 0, .int .u8 0, .int .u8 0, .int .u8 0, .int .u8 0, .nilFunc, .pointer none, .int .i32 0, .int .i32 0], 0, [(0, 1), (1, 1), (2, 1), (3, 1), (4, 1), (5, 1), (6, 1), (7, 1), (8, 1), (9, 1), (10, 1)], none, 1⟩
  | 229 => some ⟨false, 1, 8, [.nilFunc], 0, [], none, 0⟩
  | 230 => some ⟨false, 1, 24, [.slice none 0 0], 235, [], none, 2⟩
  | 232 => some ⟨true, 2, 16, [.int .i64 0, .int .i64 0], 0, [(0, 1), (1, 1)], none, 1⟩
  | 233 => some ⟨true, 2, 16, [.int .i64 0, .int .i64 0], 0, [(0, 1), (1, 1)], none, 1⟩
  | 234 => some ⟨true, 3, 24, [.int .i64 0, .int .i64 0, .int .i64 0], 0, [(0, 2), (2, 1)], none, 1⟩
  | 235 => some ⟨true, 3, 24, [.int .i64 0, .int .i64 0, .int .i64 0], 0, [(0, 2), (2, 1)], none, 1⟩
  | _ => none
set_option maxRecDepth 100000 in
theorem ty_ok2 : ∀ t i, Ty2 t = some i → TyOK Try.prog t i := by
  intro t i h
  unfold Ty2 at h
  split at h <;> first
    | (cases h; done)
    | (injection h with h; subst h; exact ⟨by kernel_rfl, by kernel_rfl, by kernel_rfl, by kernel_rfl, by kernel_rfl, by kernel_rfl, by kernel_rfl, by kernel_rfl, rfl, rfl, by decide, by decide, fun h => by first | rfl | cases h⟩)
def Ty (t : TypeId) : Option TyI := match Ty0 t with | some i => some i | none => match Ty1 t with | some i => some i | none => Ty2 t
theorem ty_ok : ∀ t i, Ty t = some i → TyOK Try.prog t i := by
  intro t i h
  unfold Ty at h
  split at h
  · rename_i hk; injection h with h; subst h; exact ty_ok0 t _ hk
  split at h
  · rename_i hk; injection h with h; subst h; exact ty_ok1 t _ hk
  exact ty_ok2 t i h
end Go.Proofs.Ytjhkehloipmjfaa
