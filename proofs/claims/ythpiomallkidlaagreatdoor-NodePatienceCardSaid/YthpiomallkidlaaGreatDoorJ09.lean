/-
  Parts: NCd, NTab, NLay, NKeys, VmSet, VmRow, NSort.
-/
import Derived.Test.YthpiomallkidlaaGreatDoorJ06
import Derived.Test.YthpiomallkidlaaGreatDoorProg
import Derived.KernelRfl
import Derived.Test.YthpiomallkidlaaGreatDoorJ05
import Derived.Test.YthpiomallkidlaaGreatDoorJ07
import Derived.Test.YthpiomallkidlaaGreatDoorJ08
import Derived.Shelf.SlIter.Nil
import Derived.Shelf.SortM.Plain
import Derived.Shelf.SortM.SortNone
import Derived.Ground.GgzProg
import Derived.Ground.SlgmProg
import Derived.Test.YthpiomallkidlaaGreatDoorJ04
import Derived.Test.YthpiomallkidlaaGreatDoorJ03
set_option linter.unusedVariables false
set_option maxRecDepth 100000
set_option linter.unusedSimpArgs false
set_option maxRecDepth 20000
namespace Go.VM
open Go Go.Proofs
abbrev n_cmp_Less_int : Nat := 150
def b_cmp_Less_int : Cd := (.seq (.reg [] [fi 4 (.mv (.c (.bool false)))])
 (.seq (.reg [] [fi 5 (.mv (.t 0)),
  ei 6 (.call 222 [(.t 5)]),
  fi 7 (.mv (.t 6)),
  .run ⟨(some 8), (some (7, true)), .f (.mv (.t 1))⟩,
  .run ⟨(some 9), (some (7, true)), .e (.call 222 [(.t 8)])⟩,
  .run ⟨(some 10), (some (7, true)), .f (.un .not (.t 9))⟩,
  fi 11 (.pick (.t 7) (.t 10) (.c (.bool false))),
  fi 12 (.mv (.t 11)),
  .run ⟨(some 13), (some (12, false)), .f (.mv (.t 0))⟩,
  .run ⟨(some 14), (some (12, false)), .f (.mv (.t 1))⟩,
  .run ⟨(some 15), (some (12, false)), .f (.bin .lss (.t 13) (.t 14))⟩,
  fi 16 (.pick (.t 12) (.c (.bool true)) (.t 15)),
  fi 4 (.mv (.t 16))])
 .ret))
theorem k_cmp_Less_int : chkFn Tryz.prog n_cmp_Less_int ⟨b_cmp_Less_int, [.tmp 4], 17⟩ = true := by kernel_rfl
abbrev n_cmp_Less_uint64 : Nat := 137
def b_cmp_Less_uint64 : Cd := (.seq (.reg [] [fi 4 (.mv (.c (.bool false)))])
 (.seq (.reg [] [fi 5 (.mv (.t 0)),
  ei 6 (.call 210 [(.t 5)]),
  fi 7 (.mv (.t 6)),
  .run ⟨(some 8), (some (7, true)), .f (.mv (.t 1))⟩,
  .run ⟨(some 9), (some (7, true)), .e (.call 210 [(.t 8)])⟩,
  .run ⟨(some 10), (some (7, true)), .f (.un .not (.t 9))⟩,
  fi 11 (.pick (.t 7) (.t 10) (.c (.bool false))),
  fi 12 (.mv (.t 11)),
  .run ⟨(some 13), (some (12, false)), .f (.mv (.t 0))⟩,
  .run ⟨(some 14), (some (12, false)), .f (.mv (.t 1))⟩,
  .run ⟨(some 15), (some (12, false)), .f (.bin .lss (.t 13) (.t 14))⟩,
  fi 16 (.pick (.t 12) (.c (.bool true)) (.t 15)),
  fi 4 (.mv (.t 16))])
 .ret))
theorem k_cmp_Less_uint64 : chkFn Tryz.prog n_cmp_Less_uint64 ⟨b_cmp_Less_uint64, [.tmp 4], 17⟩ = true := by kernel_rfl
abbrev n_cmp_isNaN_int : Nat := 222
def b_cmp_isNaN_int : Cd := (.seq (.reg [] [fi 2 (.mv (.c (.bool false)))])
 (.seq (.reg [] [fi 3 (.mv (.t 0)),
  fi 4 (.mv (.t 0)),
  fi 5 (.bin .neq (.t 3) (.t 4)),
  fi 2 (.mv (.t 5))])
 .ret))
theorem k_cmp_isNaN_int : chkFn Tryz.prog n_cmp_isNaN_int ⟨b_cmp_isNaN_int, [.tmp 2], 6⟩ = true := by kernel_rfl
abbrev n_cmp_isNaN_uint64 : Nat := 210
def b_cmp_isNaN_uint64 : Cd := (.seq (.reg [] [fi 2 (.mv (.c (.bool false)))])
 (.seq (.reg [] [fi 3 (.mv (.t 0)),
  fi 4 (.mv (.t 0)),
  fi 5 (.bin .neq (.t 3) (.t 4)),
  fi 2 (.mv (.t 5))])
 .ret))
theorem k_cmp_isNaN_uint64 : chkFn Tryz.prog n_cmp_isNaN_uint64 ⟨b_cmp_isNaN_uint64, [.tmp 2], 6⟩ = true := by kernel_rfl
abbrev n_internal_strconv_FormatInt : Nat := 161
def b_internal_strconv_FormatInt : Cd := (.seq (.reg [] [fi 4 (.mv (.c (.str (mkS []))))])
 (.seq (.seq (.reg [] [fi 10 (.mv (.t 1)),
  fi 11 (.bin .eql (.t 10) (.c (.int .i64 10)))])
 (.ite (.t 11)
 (.seq (.seq (.reg [] [fi 12 (.mv (.t 0)),
  fi 13 (.bin .leq (.c (.int .i64 0)) (.t 12)),
  fi 14 (.mv (.t 13)),
  .run ⟨(some 15), (some (14, true)), .f (.mv (.t 0))⟩,
  .run ⟨(some 16), (some (14, true)), .f (.bin .lss (.t 15) (.c (.int .i64 100)))⟩,
  fi 17 (.pick (.t 14) (.t 16) (.c (.bool false)))])
 (.ite (.t 17)
 (.seq (.reg [] [fi 18 (.mv (.t 0)),
  ei 19 (.call 228 [(.t 18)]),
  fi 4 (.mv (.t 19))])
 .ret)
 .skip))
 (.seq (.reg [] [ei 5 (.alloc [(.int .u8 0), (.int .u8 0), (.int .u8 0), (.int .u8 0), (.int .u8 0), (.int .u8 0), (.int .u8 0), (.int .u8 0), (.int .u8 0), (.int .u8 0), (.int .u8 0), (.int .u8 0), (.int .u8 0), (.int .u8 0), (.int .u8 0), (.int .u8 0), (.int .u8 0), (.int .u8 0), (.int .u8 0), (.int .u8 0), (.int .u8 0), (.int .u8 0), (.int .u8 0), (.int .u8 0)])])
 (.seq (.reg [] [fi 20 (.mv (.t 0)),
  fi 21 (.conv (.int .u64) (.t 20)),
  fi 6 (.mv (.t 21))])
 (.seq (.seq (.reg [] [fi 22 (.mv (.t 0)),
  fi 23 (.bin .lss (.t 22) (.c (.int .i64 0)))])
 (.ite (.t 23)
 (.reg [] [fi 24 (.mv (.t 6)),
  fi 25 (.un .neg (.t 24)),
  fi 6 (.mv (.t 25))])
 .skip))
 (.seq (.reg [] [fi 26 (.mv (.t 6)),
  ei 27 (.call 229 [(.t 26)]),
  fi 7 (.mv (.t 27))])
 (.seq .stuck
 (.seq (.seq (.reg [] [fi 33 (.mv (.t 0)),
  fi 34 (.bin .lss (.t 33) (.c (.int .i64 0)))])
 (.ite (.t 34)
 (.seq (.reg [] [fi 35 (.indexAddrA 24 1 (.t 5) (.c (.int .i64 0))),
  st (.store 1 (.t 35) (.c (.int .u8 45)))])
 (.seq .stuck
 .ret))
 .skip))
 (.seq .stuck
 .ret))))))))
 .skip))
 (.seq (.reg [] [fi 45 (.mv (.t 0)),
  fi 46 (.conv (.int .u64) (.t 45)),
  fi 47 (.mv (.t 1)),
  fi 48 (.mv (.t 0)),
  fi 49 (.bin .lss (.t 48) (.c (.int .i64 0))),
  ei 50 (.call 231 [(.c (.sl [] 0 1 .nil)), (.t 46), (.t 47), (.t 49), (.c (.bool false))]),
  fi 44 (.mv (.t 50)),
  fi 51 (.extract (.t 44) 0),
  fi 52 (.extract (.t 44) 1),
  fi 8 (.mv (.t 51)),
  fi 9 (.mv (.t 52))])
 (.seq (.reg [] [fi 53 (.mv (.t 9)),
  fi 4 (.mv (.t 53))])
 .ret))))
theorem k_internal_strconv_FormatInt : chkFn Tryz.prog n_internal_strconv_FormatInt ⟨b_internal_strconv_FormatInt, [.tmp 4], 54⟩ = true := by kernel_rfl
abbrev n_internal_strconv_Itoa : Nat := 96
def b_internal_strconv_Itoa : Cd := (.seq (.reg [] [fi 2 (.mv (.c (.str (mkS []))))])
 (.seq (.reg [] [fi 3 (.mv (.t 0)),
  ei 4 (.call 161 [(.t 3), (.c (.int .i64 10))]),
  fi 2 (.mv (.t 4))])
 .ret))
theorem k_internal_strconv_Itoa : chkFn Tryz.prog n_internal_strconv_Itoa ⟨b_internal_strconv_Itoa, [.tmp 2], 5⟩ = true := by kernel_rfl
abbrev n_internal_strconv_small : Nat := 228
def b_internal_strconv_small : Cd := (.seq (.reg [] [fi 2 (.mv (.c (.str (mkS []))))])
 (.seq (.seq (.reg [] [fi 3 (.mv (.t 0)),
  fi 4 (.bin .lss (.t 3) (.c (.int .i64 10)))])
 (.ite (.t 4)
 (.seq (.reg [] [fi 5 (.mv (.t 0)),
  fi 6 (.mv (.t 0)),
  fi 7 (.bin .add (.t 6) (.c (.int .i64 1))),
  fi 8 (.sliceS (.c (.str (mkS [48, 49, 50, 51, 52, 53, 54, 55, 56, 57, 97, 98, 99, 100, 101, 102, 103, 104, 105, 106, 107, 108, 109, 110, 111, 112, 113, 114, 115, 116, 117, 118, 119, 120, 121, 122]))) (some (.t 5)) (some (.t 7))),
  fi 2 (.mv (.t 8))])
 .ret)
 .skip))
 (.seq (.reg [] [fi 9 (.mv (.t 0)),
  fi 10 (.bin .mul (.t 9) (.c (.int .i64 2))),
  fi 11 (.mv (.t 0)),
  fi 12 (.bin .mul (.t 11) (.c (.int .i64 2))),
  fi 13 (.bin .add (.t 12) (.c (.int .i64 2))),
  fi 14 (.sliceS (.c (.str (mkS [48, 48, 48, 49, 48, 50, 48, 51, 48, 52, 48, 53, 48, 54, 48, 55, 48, 56, 48, 57, 49, 48, 49, 49, 49, 50, 49, 51, 49, 52, 49, 53, 49, 54, 49, 55, 49, 56, 49, 57, 50, 48, 50, 49, 50, 50, 50, 51, 50, 52, 50, 53, 50, 54, 50, 55, 50, 56, 50, 57, 51, 48, 51, 49, 51, 50, 51, 51, 51, 52, 51, 53, 51, 54, 51, 55, 51, 56, 51, 57, 52, 48, 52, 49, 52, 50, 52, 51, 52, 52, 52, 53, 52, 54, 52, 55, 52, 56, 52, 57, 53, 48, 53, 49, 53, 50, 53, 51, 53, 52, 53, 53, 53, 54, 53, 55, 53, 56, 53, 57, 54, 48, 54, 49, 54, 50, 54, 51, 54, 52, 54, 53, 54, 54, 54, 55, 54, 56, 54, 57, 55, 48, 55, 49, 55, 50, 55, 51, 55, 52, 55, 53, 55, 54, 55, 55, 55, 56, 55, 57, 56, 48, 56, 49, 56, 50, 56, 51, 56, 52, 56, 53, 56, 54, 56, 55, 56, 56, 56, 57, 57, 48, 57, 49, 57, 50, 57, 51, 57, 52, 57, 53, 57, 54, 57, 55, 57, 56, 57, 57]))) (some (.t 10)) (some (.t 13))),
  fi 2 (.mv (.t 14))])
 .ret)))
theorem k_internal_strconv_small : chkFn Tryz.prog n_internal_strconv_small ⟨b_internal_strconv_small, [.tmp 2], 15⟩ = true := by kernel_rfl
abbrev n_internal_stringslite_HasPrefix : Nat := 285
def b_internal_stringslite_HasPrefix : Cd := (.seq (.reg [] [fi 4 (.mv (.c (.bool false)))])
 (.seq (.reg [] [fi 5 (.mv (.t 0)),
  fi 6 (.len .str (.t 5)),
  fi 7 (.mv (.t 1)),
  fi 8 (.len .str (.t 7)),
  fi 9 (.bin .geq (.t 6) (.t 8)),
  fi 10 (.mv (.t 9)),
  .run ⟨(some 11), (some (10, true)), .f (.mv (.t 0))⟩,
  .run ⟨(some 12), (some (10, true)), .f (.mv (.t 1))⟩,
  .run ⟨(some 13), (some (10, true)), .f (.len .str (.t 12))⟩,
  .run ⟨(some 14), (some (10, true)), .f (.sliceS (.t 11) none (some (.t 13)))⟩,
  .run ⟨(some 15), (some (10, true)), .f (.mv (.t 1))⟩,
  .run ⟨(some 16), (some (10, true)), .f (.bin .eql (.t 14) (.t 15))⟩,
  fi 17 (.pick (.t 10) (.t 16) (.c (.bool false))),
  fi 4 (.mv (.t 17))])
 .ret))
theorem k_internal_stringslite_HasPrefix : chkFn Tryz.prog n_internal_stringslite_HasPrefix ⟨b_internal_stringslite_HasPrefix, [.tmp 4], 18⟩ = true := by kernel_rfl
abbrev n_maps_Keys_map_string_int_string_int : Nat := 296
def b_maps_Keys_map_string_int_string_int : Cd := (.seq (.reg [] [ei 1 (.box (.t 0)),
  fi 2 (.mv (.c .nilFunc))])
 (.seq (.reg [] [fi 3 (.mkFunc 311 [] [(.t 1)]),
  fi 2 (.mv (.t 3))])
 .ret))
theorem k_maps_Keys_map_string_int_string_int : chkFn Tryz.prog n_maps_Keys_map_string_int_string_int ⟨b_maps_Keys_map_string_int_string_int, [.tmp 2], 4⟩ = true := by kernel_rfl
abbrev n_math_bits_Len : Nat := 85
def b_math_bits_Len : Cd := (.seq (.reg [] [fi 2 (.mv (.c (.int .i64 0)))])
 (.seq (.ite (.c (.bool false))
 (.seq (.reg [] [fi 3 (.mv (.t 0)),
  fi 4 (.conv (.int .u32) (.t 3)),
  ei 5 (.call 140 [(.t 4)]),
  fi 2 (.mv (.t 5))])
 .ret)
 .skip)
 (.seq (.reg [] [fi 6 (.mv (.t 0)),
  ei 7 (.call 141 [(.t 6)]),
  fi 2 (.mv (.t 7))])
 .ret)))
theorem k_math_bits_Len : chkFn Tryz.prog n_math_bits_Len ⟨b_math_bits_Len, [.tmp 2], 8⟩ = true := by kernel_rfl
abbrev n_math_bits_Len64 : Nat := 141
def b_math_bits_Len64 : Cd := (.seq (.reg [] [fi 2 (.mv (.c (.int .i64 0)))])
 (.seq (.seq (.reg [] [fi 3 (.mv (.t 0)),
  fi 4 (.bin .geq (.t 3) (.c (.int .u64 4294967296)))])
 (.ite (.t 4)
 (.seq (.reg [] [fi 5 (.mv (.t 0)),
  fi 6 (.bin .shr (.t 5) (.c (.int .u64 32))),
  fi 0 (.mv (.t 6))])
 (.reg [] [fi 2 (.mv (.c (.int .i64 32)))]))
 .skip))
 (.seq (.seq (.reg [] [fi 7 (.mv (.t 0)),
  fi 8 (.bin .geq (.t 7) (.c (.int .u64 65536)))])
 (.ite (.t 8)
 (.seq (.reg [] [fi 9 (.mv (.t 0)),
  fi 10 (.bin .shr (.t 9) (.c (.int .u64 16))),
  fi 0 (.mv (.t 10))])
 (.reg [] [fi 11 (.mv (.t 2)),
  fi 12 (.bin .add (.t 11) (.c (.int .i64 16))),
  fi 2 (.mv (.t 12))]))
 .skip))
 (.seq (.seq (.reg [] [fi 13 (.mv (.t 0)),
  fi 14 (.bin .geq (.t 13) (.c (.int .u64 256)))])
 (.ite (.t 14)
 (.seq (.reg [] [fi 15 (.mv (.t 0)),
  fi 16 (.bin .shr (.t 15) (.c (.int .u64 8))),
  fi 0 (.mv (.t 16))])
 (.reg [] [fi 17 (.mv (.t 2)),
  fi 18 (.bin .add (.t 17) (.c (.int .i64 8))),
  fi 2 (.mv (.t 18))]))
 .skip))
 (.seq (.reg [] [fi 19 (.mv (.t 2)),
  fi 20 (.mv (.t 0)),
  fi 21 (.conv (.int .u8) (.t 20)),
  fi 22 (.indexS (.c (.str (mkS [0, 1, 2, 2, 3, 3, 3, 3, 4, 4, 4, 4, 4, 4, 4, 4, 5, 5, 5, 5, 5, 5, 5, 5, 5, 5, 5, 5, 5, 5, 5, 5, 6, 6, 6, 6, 6, 6, 6, 6, 6, 6, 6, 6, 6, 6, 6, 6, 6, 6, 6, 6, 6, 6, 6, 6, 6, 6, 6, 6, 6, 6, 6, 6, 7, 7, 7, 7, 7, 7, 7, 7, 7, 7, 7, 7, 7, 7, 7, 7, 7, 7, 7, 7, 7, 7, 7, 7, 7, 7, 7, 7, 7, 7, 7, 7, 7, 7, 7, 7, 7, 7, 7, 7, 7, 7, 7, 7, 7, 7, 7, 7, 7, 7, 7, 7, 7, 7, 7, 7, 7, 7, 7, 7, 7, 7, 7, 7, 8, 8, 8, 8, 8, 8, 8, 8, 8, 8, 8, 8, 8, 8, 8, 8, 8, 8, 8, 8, 8, 8, 8, 8, 8, 8, 8, 8, 8, 8, 8, 8, 8, 8, 8, 8, 8, 8, 8, 8, 8, 8, 8, 8, 8, 8, 8, 8, 8, 8, 8, 8, 8, 8, 8, 8, 8, 8, 8, 8, 8, 8, 8, 8, 8, 8, 8, 8, 8, 8, 8, 8, 8, 8, 8, 8, 8, 8, 8, 8, 8, 8, 8, 8, 8, 8, 8, 8, 8, 8, 8, 8, 8, 8, 8, 8, 8, 8, 8, 8, 8, 8, 8, 8, 8, 8, 8, 8, 8, 8, 8, 8, 8, 8, 8, 8, 8, 8, 8, 8, 8, 8, 8, 8, 8, 8, 8, 8]))) (.t 21)),
  fi 23 (.conv (.int .i64) (.t 22)),
  fi 24 (.bin .add (.t 19) (.t 23)),
  fi 2 (.mv (.t 24))])
 .ret)))))
theorem k_math_bits_Len64 : chkFn Tryz.prog n_math_bits_Len64 ⟨b_math_bits_Len64, [.tmp 2], 25⟩ = true := by kernel_rfl
abbrev n_slices_Clone_byte_byte : Nat := 95
def b_slices_Clone_byte_byte : Cd := (.seq (.reg [] [fi 2 (.mv (.c (.sl [] 0 1 .nil)))])
 (.seq (.seq (.reg [] [fi 3 (.mv (.t 0)),
  fi 4 (.eq false .slice (.t 3) (.c (.sl [] 0 1 .nil)))])
 (.ite (.t 4)
 (.seq (.reg [] [fi 2 (.mv (.c (.sl [] 0 1 .nil)))])
 .ret)
 .skip))
 (.seq (.reg [] [ei 5 (.buildSlice 0 1 0 [] []),
  fi 6 (.mv (.t 0)),
  ei 7 (.append 1 1 false (.t 5) (.t 6)),
  fi 2 (.mv (.t 7))])
 .ret)))
theorem k_slices_Clone_byte_byte : chkFn Tryz.prog n_slices_Clone_byte_byte ⟨b_slices_Clone_byte_byte, [.tmp 2], 8⟩ = true := by kernel_rfl
abbrev n_slices_Compact_string_string : Nat := 294
def l_slices_Compact_string_string_0 : Cd := (.seq (.seq (.reg [] [fi 29 (.mv (.t 5)),
  fi 30 (.mv (.t 4)),
  fi 31 (.len .sl (.t 30)),
  fi 32 (.bin .lss (.t 29) (.t 31))])
 (.ite (.t 32)
 .skip
 (.exit 2)))
 (.seq (.blk 3 (.seq (.reg [0, 1, 2, 3, 4, 5, 6, 7, 8, 9] [fi 35 (.mv (.t 4)),
  fi 36 (.mv (.t 5)),
  fi 37 (.indexAddr 1 (.t 35) (.t 36)),
  fi 38 (.load false 1 (.t 37)),
  fi 39 (.mv (.t 4)),
  fi 40 (.mv (.t 5)),
  fi 41 (.bin .sub (.t 40) (.c (.int .i64 1))),
  fi 42 (.indexAddr 1 (.t 39) (.t 41)),
  fi 43 (.load false 1 (.t 42)),
  fi 44 (.bin .neq (.t 38) (.t 43))])
 (.ite (.t 44)
 (.seq (.reg [] [fi 45 (.mv (.t 0)),
  fi 46 (.mv (.t 3)),
  fi 47 (.mv (.t 4)),
  fi 48 (.mv (.t 5)),
  fi 49 (.indexAddr 1 (.t 47) (.t 48)),
  fi 50 (.load false 1 (.t 49)),
  fi 51 (.indexAddr 1 (.t 45) (.t 46)),
  st (.store 1 (.t 51) (.t 50))])
 (.reg [] [fi 52 (.mv (.t 3)),
  fi 53 (.bin .add (.t 52) (.c (.int .i64 1))),
  fi 3 (.mv (.t 53))]))
 .skip)))
 (.reg [] [fi 33 (.mv (.t 5)),
  fi 34 (.bin .add (.t 33) (.c (.int .i64 1))),
  fi 5 (.mv (.t 34))])))
def l_slices_Compact_string_string_1 : Cd := (.seq (.seq (.reg [] [fi 10 (.mv (.t 3)),
  fi 11 (.mv (.t 0)),
  fi 12 (.len .sl (.t 11)),
  fi 13 (.bin .lss (.t 10) (.t 12))])
 (.ite (.t 13)
 .skip
 (.exit 0)))
 (.seq (.blk 1 (.seq (.reg [0, 1, 2, 3, 4, 5, 6, 7, 8, 9] [fi 16 (.mv (.t 0)),
  fi 17 (.mv (.t 3)),
  fi 18 (.indexAddr 1 (.t 16) (.t 17)),
  fi 19 (.load false 1 (.t 18)),
  fi 20 (.mv (.t 0)),
  fi 21 (.mv (.t 3)),
  fi 22 (.bin .sub (.t 21) (.c (.int .i64 1))),
  fi 23 (.indexAddr 1 (.t 20) (.t 22)),
  fi 24 (.load false 1 (.t 23)),
  fi 25 (.bin .eql (.t 19) (.t 24))])
 (.ite (.t 25)
 (.seq (.reg [] [fi 26 (.mv (.t 0)),
  fi 27 (.mv (.t 3)),
  fi 28 (.slice 1 (.t 26) (some (.t 27)) none none),
  fi 4 (.mv (.t 28))])
 (.seq (.seq (.reg [] [fi 5 (.mv (.c (.int .i64 1)))])
 (.blk 2 (.loop l_slices_Compact_string_string_0)))
 (.seq .stuck
 (.seq (.reg [] [fi 57 (.mv (.t 0)),
  fi 58 (.mv (.t 3)),
  fi 59 (.slice 1 (.t 57) none (some (.t 58)) none),
  fi 2 (.mv (.t 59))])
 .ret))))
 .skip)))
 (.reg [] [fi 14 (.mv (.t 3)),
  fi 15 (.bin .add (.t 14) (.c (.int .i64 1))),
  fi 3 (.mv (.t 15))])))
def b_slices_Compact_string_string : Cd := (.seq (.reg [] [fi 2 (.mv (.c (.sl [] 0 1 .nil)))])
 (.seq (.seq (.reg [] [fi 6 (.mv (.t 0)),
  fi 7 (.len .sl (.t 6)),
  fi 8 (.bin .lss (.t 7) (.c (.int .i64 2)))])
 (.ite (.t 8)
 (.seq (.reg [] [fi 9 (.mv (.t 0)),
  fi 2 (.mv (.t 9))])
 .ret)
 .skip))
 (.seq (.seq (.reg [] [fi 3 (.mv (.c (.int .i64 1)))])
 (.blk 0 (.loop l_slices_Compact_string_string_1)))
 (.seq (.reg [] [fi 60 (.mv (.t 0)),
  fi 2 (.mv (.t 60))])
 .ret))))
theorem k_slices_Compact_string_string : chkFn Tryz.prog n_slices_Compact_string_string ⟨b_slices_Compact_string_string, [.tmp 2], 61⟩ = true := by kernel_rfl
abbrev n_slices_ContainsFunc_node_waiting_node_waiting : Nat := 182
def b_slices_ContainsFunc_node_waiting_node_waiting : Cd := (.seq (.reg [] [fi 4 (.mv (.c (.bool false)))])
 (.seq (.reg [] [fi 5 (.mv (.t 0)),
  fi 6 (.mv (.t 1)),
  ei 7 (.call 243 [(.t 5), (.t 6)]),
  fi 8 (.bin .geq (.t 7) (.c (.int .i64 0))),
  fi 4 (.mv (.t 8))])
 .ret))
theorem k_slices_ContainsFunc_node_waiting_node_waiting : chkFn Tryz.prog n_slices_ContainsFunc_node_waiting_node_waiting ⟨b_slices_ContainsFunc_node_waiting_node_waiting, [.tmp 4], 9⟩ = true := by kernel_rfl
abbrev n_slices_Contains_int_int : Nat := 99
def b_slices_Contains_int_int : Cd := (.seq (.reg [] [fi 4 (.mv (.c (.bool false)))])
 (.seq (.reg [] [fi 5 (.mv (.t 0)),
  fi 6 (.mv (.t 1)),
  ei 7 (.call 170 [(.t 5), (.t 6)]),
  fi 8 (.bin .geq (.t 7) (.c (.int .i64 0))),
  fi 4 (.mv (.t 8))])
 .ret))
theorem k_slices_Contains_int_int : chkFn Tryz.prog n_slices_Contains_int_int ⟨b_slices_Contains_int_int, [.tmp 4], 9⟩ = true := by kernel_rfl
abbrev n_slices_IndexFunc_node_waiting_node_waiting : Nat := 243
def l_slices_IndexFunc_node_waiting_node_waiting_0 : Cd := (.seq (.reg [] [fi 9 (.bin .lss (.t 8) (.t 7))])
 (.seq (.ite (.t 9)
 .skip
 (.exit 0))
 (.seq (.blk 1 (.seq (.reg [] [fi 10 (.mv (.t 8)),
  fi 5 (.mv (.t 10))])
 (.seq (.reg [] [fi 11 (.mv (.t 1)),
  fi 12 (.mv (.t 0)),
  fi 13 (.mv (.t 5)),
  fi 14 (.indexAddr 3 (.t 12) (.t 13)),
  fi 15 (.load true 3 (.t 14)),
  ei 16 (.callV (.t 11) [(.t 15)])])
 (.ite (.t 16)
 (.seq (.reg [] [fi 17 (.mv (.t 5)),
  fi 4 (.mv (.t 17))])
 .ret)
 .skip))))
 (.reg [] [fi 18 (.bin .add (.t 8) (.c (.int .i64 1))),
  fi 8 (.mv (.t 18))]))))
def b_slices_IndexFunc_node_waiting_node_waiting : Cd := (.seq (.reg [] [fi 4 (.mv (.c (.int .i64 0)))])
 (.seq (.seq (.reg [] [fi 6 (.mv (.t 0)),
  fi 7 (.len .sl (.t 6)),
  fi 8 (.mv (.c (.int .i64 0)))])
 (.blk 0 (.loop l_slices_IndexFunc_node_waiting_node_waiting_0)))
 (.seq (.reg [] [fi 4 (.mv (.c (.int .i64 (-1))))])
 .ret)))
theorem k_slices_IndexFunc_node_waiting_node_waiting : chkFn Tryz.prog n_slices_IndexFunc_node_waiting_node_waiting ⟨b_slices_IndexFunc_node_waiting_node_waiting, [.tmp 4], 19⟩ = true := by kernel_rfl
abbrev n_slices_Index_int_int : Nat := 170
def l_slices_Index_int_int_0 : Cd := (.seq (.reg [] [fi 9 (.bin .lss (.t 8) (.t 7))])
 (.seq (.ite (.t 9)
 .skip
 (.exit 0))
 (.seq (.blk 1 (.seq (.reg [] [fi 10 (.mv (.t 8)),
  fi 5 (.mv (.t 10))])
 (.seq (.reg [] [fi 11 (.mv (.t 1)),
  fi 12 (.mv (.t 0)),
  fi 13 (.mv (.t 5)),
  fi 14 (.indexAddr 1 (.t 12) (.t 13)),
  fi 15 (.load false 1 (.t 14)),
  fi 16 (.bin .eql (.t 11) (.t 15))])
 (.ite (.t 16)
 (.seq (.reg [] [fi 17 (.mv (.t 5)),
  fi 4 (.mv (.t 17))])
 .ret)
 .skip))))
 (.reg [] [fi 18 (.bin .add (.t 8) (.c (.int .i64 1))),
  fi 8 (.mv (.t 18))]))))
def b_slices_Index_int_int : Cd := (.seq (.reg [] [fi 4 (.mv (.c (.int .i64 0)))])
 (.seq (.seq (.reg [] [fi 6 (.mv (.t 0)),
  fi 7 (.len .sl (.t 6)),
  fi 8 (.mv (.c (.int .i64 0)))])
 (.blk 0 (.loop l_slices_Index_int_int_0)))
 (.seq (.reg [] [fi 4 (.mv (.c (.int .i64 (-1))))])
 .ret)))
theorem k_slices_Index_int_int : chkFn Tryz.prog n_slices_Index_int_int ⟨b_slices_Index_int_int, [.tmp 4], 19⟩ = true := by kernel_rfl
abbrev n_slices_SortFunc_ring_point_ring_point : Nat := 65
def b_slices_SortFunc_ring_point_ring_point : Cd := (.seq (.reg [] [fi 5 (.mv (.t 0)),
  fi 6 (.len .sl (.t 5)),
  fi 4 (.mv (.t 6))])
 (.reg [] [fi 7 (.mv (.t 0)),
  fi 8 (.mv (.t 4)),
  fi 9 (.mv (.t 4)),
  fi 10 (.conv (.int .u64) (.t 9)),
  ei 11 (.call 85 [(.t 10)]),
  fi 12 (.mv (.t 1)),
  ei 13 (.call 116 [(.t 7), (.c (.int .i64 0)), (.t 8), (.t 11), (.t 12)])]))
theorem k_slices_SortFunc_ring_point_ring_point : chkFn Tryz.prog n_slices_SortFunc_ring_point_ring_point ⟨b_slices_SortFunc_ring_point_ring_point, [], 14⟩ = true := by kernel_rfl
abbrev n_slices_Sort_int_int : Nat := 44
def b_slices_Sort_int_int : Cd := (.seq (.reg [] [fi 3 (.mv (.t 0)),
  fi 4 (.len .sl (.t 3)),
  fi 2 (.mv (.t 4))])
 (.reg [] [fi 5 (.mv (.t 0)),
  fi 6 (.mv (.t 2)),
  fi 7 (.mv (.t 2)),
  fi 8 (.conv (.int .u64) (.t 7)),
  ei 9 (.call 85 [(.t 8)]),
  ei 10 (.call 88 [(.t 5), (.c (.int .i64 0)), (.t 6), (.t 9)])]))
theorem k_slices_Sort_int_int : chkFn Tryz.prog n_slices_Sort_int_int ⟨b_slices_Sort_int_int, [], 11⟩ = true := by kernel_rfl
abbrev n_slices_Sort_string_string : Nat := 293
def b_slices_Sort_string_string : Cd := (.seq (.reg [] [fi 3 (.mv (.t 0)),
  fi 4 (.len .sl (.t 3)),
  fi 2 (.mv (.t 4))])
 (.reg [] [fi 5 (.mv (.t 0)),
  fi 6 (.mv (.t 2)),
  fi 7 (.mv (.t 2)),
  fi 8 (.conv (.int .u64) (.t 7)),
  ei 9 (.call 85 [(.t 8)]),
  ei 10 (.call 309 [(.t 5), (.c (.int .i64 0)), (.t 6), (.t 9)])]))
theorem k_slices_Sort_string_string : chkFn Tryz.prog n_slices_Sort_string_string ⟨b_slices_Sort_string_string, [], 11⟩ = true := by kernel_rfl
abbrev n_slices_Sort_uint64_uint64 : Nat := 42
def b_slices_Sort_uint64_uint64 : Cd := (.seq (.reg [] [fi 3 (.mv (.t 0)),
  fi 4 (.len .sl (.t 3)),
  fi 2 (.mv (.t 4))])
 (.reg [] [fi 5 (.mv (.t 0)),
  fi 6 (.mv (.t 2)),
  fi 7 (.mv (.t 2)),
  fi 8 (.conv (.int .u64) (.t 7)),
  ei 9 (.call 85 [(.t 8)]),
  ei 10 (.call 84 [(.t 5), (.c (.int .i64 0)), (.t 6), (.t 9)])]))
theorem k_slices_Sort_uint64_uint64 : chkFn Tryz.prog n_slices_Sort_uint64_uint64 ⟨b_slices_Sort_uint64_uint64, [], 11⟩ = true := by kernel_rfl
abbrev n_slices_choosePivotCmpFunc_ring_point : Nat := 190
def b_slices_choosePivotCmpFunc_ring_point : Cd := (.seq (.reg [] [fi 8 (.mv (.c (.int .i64 0))),
  fi 9 (.mv (.c (.int .i64 0)))])
 (.seq (.reg [] [fi 15 (.mv (.t 2)),
  fi 16 (.mv (.t 1)),
  fi 17 (.bin .sub (.t 15) (.t 16)),
  fi 10 (.mv (.t 17))])
 (.seq (.reg [] [ei 11 (.alloc [(.int .i64 0)])])
 (.seq (.reg [] [fi 18 (.mv (.t 1)),
  fi 19 (.mv (.t 10)),
  fi 20 (.bin .quo (.t 19) (.c (.int .i64 4))),
  fi 21 (.bin .mul (.t 20) (.c (.int .i64 1))),
  fi 22 (.bin .add (.t 18) (.t 21)),
  fi 12 (.mv (.t 22))])
 (.seq (.reg [] [fi 23 (.mv (.t 1)),
  fi 24 (.mv (.t 10)),
  fi 25 (.bin .quo (.t 24) (.c (.int .i64 4))),
  fi 26 (.bin .mul (.t 25) (.c (.int .i64 2))),
  fi 27 (.bin .add (.t 23) (.t 26)),
  fi 13 (.mv (.t 27))])
 (.seq (.reg [] [fi 28 (.mv (.t 1)),
  fi 29 (.mv (.t 10)),
  fi 30 (.bin .quo (.t 29) (.c (.int .i64 4))),
  fi 31 (.bin .mul (.t 30) (.c (.int .i64 3))),
  fi 32 (.bin .add (.t 28) (.t 31)),
  fi 14 (.mv (.t 32))])
 (.seq (.seq (.reg [] [fi 33 (.mv (.t 10)),
  fi 34 (.bin .geq (.t 33) (.c (.int .i64 8)))])
 (.ite (.t 34)
 (.seq (.seq (.reg [] [fi 35 (.mv (.t 10)),
  fi 36 (.bin .geq (.t 35) (.c (.int .i64 50)))])
 (.ite (.t 36)
 (.seq (.reg [] [fi 37 (.mv (.t 0)),
  fi 38 (.mv (.t 12)),
  fi 39 (.mv (.t 3)),
  ei 40 (.call 246 [(.t 37), (.t 38), (.t 11), (.t 39)]),
  fi 12 (.mv (.t 40))])
 (.seq (.reg [] [fi 41 (.mv (.t 0)),
  fi 42 (.mv (.t 13)),
  fi 43 (.mv (.t 3)),
  ei 44 (.call 246 [(.t 41), (.t 42), (.t 11), (.t 43)]),
  fi 13 (.mv (.t 44))])
 (.reg [] [fi 45 (.mv (.t 0)),
  fi 46 (.mv (.t 14)),
  fi 47 (.mv (.t 3)),
  ei 48 (.call 246 [(.t 45), (.t 46), (.t 11), (.t 47)]),
  fi 14 (.mv (.t 48))])))
 .skip))
 (.reg [] [fi 49 (.mv (.t 0)),
  fi 50 (.mv (.t 12)),
  fi 51 (.mv (.t 13)),
  fi 52 (.mv (.t 14)),
  fi 53 (.mv (.t 3)),
  ei 54 (.call 247 [(.t 49), (.t 50), (.t 51), (.t 52), (.t 11), (.t 53)]),
  fi 13 (.mv (.t 54))]))
 .skip))
 (.seq (.reg [] [fi 55 (.load false 1 (.t 11))])
 (.blk 0 (.seq (.reg [] [fi 58 (.bin .eql (.t 55) (.c (.int .i64 0))),
  fi 57 (.mv (.t 58))])
 (.ite (.t 57)
 (.seq (.reg [] [fi 59 (.mv (.t 13)),
  fi 8 (.mv (.t 59)),
  fi 9 (.mv (.c (.int .i64 1)))])
 .ret)
 (.seq (.reg [] [fi 61 (.bin .eql (.t 55) (.c (.int .i64 12))),
  fi 60 (.mv (.t 61))])
 (.ite (.t 60)
 (.seq (.reg [] [fi 62 (.mv (.t 13)),
  fi 8 (.mv (.t 62)),
  fi 9 (.mv (.c (.int .i64 2)))])
 .ret)
 (.seq (.reg [] [fi 56 (.mv (.t 13)),
  fi 8 (.mv (.t 56)),
  fi 9 (.mv (.c (.int .i64 0)))])
 .ret))))))))))))))
theorem k_slices_choosePivotCmpFunc_ring_point : chkFn Tryz.prog n_slices_choosePivotCmpFunc_ring_point ⟨b_slices_choosePivotCmpFunc_ring_point, [.tmp 8, .tmp 9], 63⟩ = true := by kernel_rfl
abbrev n_slices_insertionSortCmpFunc_ring_point : Nat := 187
def l_slices_insertionSortCmpFunc_ring_point_0 : Cd := (.seq (.seq (.reg [0, 1, 2, 3, 4, 5, 6, 7, 8, 9, 10, 11, 12, 13, 14, 15, 16] [fi 18 (.mv (.t 9)),
  fi 19 (.mv (.t 1)),
  fi 20 (.bin .gtr (.t 18) (.t 19)),
  fi 21 (.mv (.t 20)),
  .run ⟨(some 22), (some (21, true)), .f (.mv (.t 3))⟩,
  .run ⟨(some 23), (some (21, true)), .f (.mv (.t 0))⟩,
  .run ⟨(some 24), (some (21, true)), .f (.mv (.t 9))⟩,
  .run ⟨(some 25), (some (21, true)), .f (.indexAddr 2 (.t 23) (.t 24))⟩,
  .run ⟨(some 26), (some (21, true)), .f (.load true 2 (.t 25))⟩,
  .run ⟨(some 27), (some (21, true)), .f (.mv (.t 0))⟩,
  .run ⟨(some 28), (some (21, true)), .f (.mv (.t 9))⟩,
  .run ⟨(some 29), (some (21, true)), .f (.bin .sub (.t 28) (.c (.int .i64 1)))⟩,
  .run ⟨(some 30), (some (21, true)), .f (.indexAddr 2 (.t 27) (.t 29))⟩,
  .run ⟨(some 31), (some (21, true)), .f (.load true 2 (.t 30))⟩,
  .run ⟨(some 32), (some (21, true)), .e (.callV (.t 22) [(.t 26), (.t 31)])⟩,
  .run ⟨(some 33), (some (21, true)), .f (.bin .lss (.t 32) (.c (.int .i64 0)))⟩,
  fi 34 (.pick (.t 21) (.t 33) (.c (.bool false)))])
 (.ite (.t 34)
 .skip
 (.exit 2)))
 (.seq (.blk 3 (.reg [0, 1, 2, 3, 4, 5, 6, 7, 8, 9, 10, 11, 12, 13, 14, 15, 16, 17] [fi 37 (.mv (.t 0)),
  fi 38 (.mv (.t 9)),
  fi 39 (.mv (.t 0)),
  fi 40 (.mv (.t 9)),
  fi 41 (.bin .sub (.t 40) (.c (.int .i64 1))),
  fi 42 (.mv (.t 0)),
  fi 43 (.mv (.t 9)),
  fi 44 (.bin .sub (.t 43) (.c (.int .i64 1))),
  fi 45 (.indexAddr 2 (.t 42) (.t 44)),
  fi 46 (.load true 2 (.t 45)),
  fi 47 (.mv (.t 0)),
  fi 48 (.mv (.t 9)),
  fi 49 (.indexAddr 2 (.t 47) (.t 48)),
  fi 50 (.load true 2 (.t 49)),
  fi 51 (.indexAddr 2 (.t 37) (.t 38)),
  st (.store 2 (.t 51) (.t 46)),
  fi 52 (.indexAddr 2 (.t 39) (.t 41)),
  st (.store 2 (.t 52) (.t 50))]))
 (.reg [] [fi 35 (.mv (.t 9)),
  fi 36 (.bin .sub (.t 35) (.c (.int .i64 1))),
  fi 9 (.mv (.t 36))])))
def l_slices_insertionSortCmpFunc_ring_point_1 : Cd := (.seq (.seq (.reg [] [fi 12 (.mv (.t 8)),
  fi 13 (.mv (.t 2)),
  fi 14 (.bin .lss (.t 12) (.t 13))])
 (.ite (.t 14)
 .skip
 (.exit 0)))
 (.seq (.blk 1 (.seq (.reg [] [fi 17 (.mv (.t 8)),
  fi 9 (.mv (.t 17))])
 (.blk 2 (.loop l_slices_insertionSortCmpFunc_ring_point_0))))
 (.reg [] [fi 15 (.mv (.t 8)),
  fi 16 (.bin .add (.t 15) (.c (.int .i64 1))),
  fi 8 (.mv (.t 16))])))
def b_slices_insertionSortCmpFunc_ring_point : Cd := (.seq (.reg [] [fi 10 (.mv (.t 1)),
  fi 11 (.bin .add (.t 10) (.c (.int .i64 1))),
  fi 8 (.mv (.t 11))])
 (.blk 0 (.loop l_slices_insertionSortCmpFunc_ring_point_1)))
theorem k_slices_insertionSortCmpFunc_ring_point : chkFn Tryz.prog n_slices_insertionSortCmpFunc_ring_point ⟨b_slices_insertionSortCmpFunc_ring_point, [], 53⟩ = true := by kernel_rfl
abbrev n_slices_insertionSortOrdered_int : Nat := 144
def l_slices_insertionSortOrdered_int_0 : Cd := (.seq (.seq (.reg [0, 1, 2, 3, 4, 5, 6, 7, 8, 9, 10, 11, 12, 13, 14] [fi 16 (.mv (.t 7)),
  fi 17 (.mv (.t 1)),
  fi 18 (.bin .gtr (.t 16) (.t 17)),
  fi 19 (.mv (.t 18)),
  .run ⟨(some 20), (some (19, true)), .f (.mv (.t 0))⟩,
  .run ⟨(some 21), (some (19, true)), .f (.mv (.t 7))⟩,
  .run ⟨(some 22), (some (19, true)), .f (.indexAddr 1 (.t 20) (.t 21))⟩,
  .run ⟨(some 23), (some (19, true)), .f (.load false 1 (.t 22))⟩,
  .run ⟨(some 24), (some (19, true)), .f (.mv (.t 0))⟩,
  .run ⟨(some 25), (some (19, true)), .f (.mv (.t 7))⟩,
  .run ⟨(some 26), (some (19, true)), .f (.bin .sub (.t 25) (.c (.int .i64 1)))⟩,
  .run ⟨(some 27), (some (19, true)), .f (.indexAddr 1 (.t 24) (.t 26))⟩,
  .run ⟨(some 28), (some (19, true)), .f (.load false 1 (.t 27))⟩,
  .run ⟨(some 29), (some (19, true)), .e (.call 150 [(.t 23), (.t 28)])⟩,
  fi 30 (.pick (.t 19) (.t 29) (.c (.bool false)))])
 (.ite (.t 30)
 .skip
 (.exit 2)))
 (.seq (.blk 3 (.reg [0, 1, 2, 3, 4, 5, 6, 7, 8, 9, 10, 11, 12, 13, 14, 15, 16, 17] [fi 33 (.mv (.t 0)),
  fi 34 (.mv (.t 7)),
  fi 35 (.mv (.t 0)),
  fi 36 (.mv (.t 7)),
  fi 37 (.bin .sub (.t 36) (.c (.int .i64 1))),
  fi 38 (.mv (.t 0)),
  fi 39 (.mv (.t 7)),
  fi 40 (.bin .sub (.t 39) (.c (.int .i64 1))),
  fi 41 (.indexAddr 1 (.t 38) (.t 40)),
  fi 42 (.load false 1 (.t 41)),
  fi 43 (.mv (.t 0)),
  fi 44 (.mv (.t 7)),
  fi 45 (.indexAddr 1 (.t 43) (.t 44)),
  fi 46 (.load false 1 (.t 45)),
  fi 47 (.indexAddr 1 (.t 33) (.t 34)),
  st (.store 1 (.t 47) (.t 42)),
  fi 48 (.indexAddr 1 (.t 35) (.t 37)),
  st (.store 1 (.t 48) (.t 46))]))
 (.reg [] [fi 31 (.mv (.t 7)),
  fi 32 (.bin .sub (.t 31) (.c (.int .i64 1))),
  fi 7 (.mv (.t 32))])))
def l_slices_insertionSortOrdered_int_1 : Cd := (.seq (.seq (.reg [] [fi 10 (.mv (.t 6)),
  fi 11 (.mv (.t 2)),
  fi 12 (.bin .lss (.t 10) (.t 11))])
 (.ite (.t 12)
 .skip
 (.exit 0)))
 (.seq (.blk 1 (.seq (.reg [] [fi 15 (.mv (.t 6)),
  fi 7 (.mv (.t 15))])
 (.blk 2 (.loop l_slices_insertionSortOrdered_int_0))))
 (.reg [] [fi 13 (.mv (.t 6)),
  fi 14 (.bin .add (.t 13) (.c (.int .i64 1))),
  fi 6 (.mv (.t 14))])))
def b_slices_insertionSortOrdered_int : Cd := (.seq (.reg [] [fi 8 (.mv (.t 1)),
  fi 9 (.bin .add (.t 8) (.c (.int .i64 1))),
  fi 6 (.mv (.t 9))])
 (.blk 0 (.loop l_slices_insertionSortOrdered_int_1)))
theorem k_slices_insertionSortOrdered_int : chkFn Tryz.prog n_slices_insertionSortOrdered_int ⟨b_slices_insertionSortOrdered_int, [], 49⟩ = true := by kernel_rfl
abbrev n_slices_insertionSortOrdered_string : Nat := 322
def l_slices_insertionSortOrdered_string_0 : Cd := (.seq (.seq (.reg [0, 1, 2, 3, 4, 5, 6, 7, 8, 9, 10, 11, 12, 13, 14] [fi 16 (.mv (.t 7)),
  fi 17 (.mv (.t 1)),
  fi 18 (.bin .gtr (.t 16) (.t 17)),
  fi 19 (.mv (.t 18)),
  .run ⟨(some 20), (some (19, true)), .f (.mv (.t 0))⟩,
  .run ⟨(some 21), (some (19, true)), .f (.mv (.t 7))⟩,
  .run ⟨(some 22), (some (19, true)), .f (.indexAddr 1 (.t 20) (.t 21))⟩,
  .run ⟨(some 23), (some (19, true)), .f (.load false 1 (.t 22))⟩,
  .run ⟨(some 24), (some (19, true)), .f (.mv (.t 0))⟩,
  .run ⟨(some 25), (some (19, true)), .f (.mv (.t 7))⟩,
  .run ⟨(some 26), (some (19, true)), .f (.bin .sub (.t 25) (.c (.int .i64 1)))⟩,
  .run ⟨(some 27), (some (19, true)), .f (.indexAddr 1 (.t 24) (.t 26))⟩,
  .run ⟨(some 28), (some (19, true)), .f (.load false 1 (.t 27))⟩,
  .run ⟨(some 29), (some (19, true)), .e (.call 312 [(.t 23), (.t 28)])⟩,
  fi 30 (.pick (.t 19) (.t 29) (.c (.bool false)))])
 (.ite (.t 30)
 .skip
 (.exit 2)))
 (.seq (.blk 3 (.reg [0, 1, 2, 3, 4, 5, 6, 7, 8, 9, 10, 11, 12, 13, 14, 15, 16, 17] [fi 33 (.mv (.t 0)),
  fi 34 (.mv (.t 7)),
  fi 35 (.mv (.t 0)),
  fi 36 (.mv (.t 7)),
  fi 37 (.bin .sub (.t 36) (.c (.int .i64 1))),
  fi 38 (.mv (.t 0)),
  fi 39 (.mv (.t 7)),
  fi 40 (.bin .sub (.t 39) (.c (.int .i64 1))),
  fi 41 (.indexAddr 1 (.t 38) (.t 40)),
  fi 42 (.load false 1 (.t 41)),
  fi 43 (.mv (.t 0)),
  fi 44 (.mv (.t 7)),
  fi 45 (.indexAddr 1 (.t 43) (.t 44)),
  fi 46 (.load false 1 (.t 45)),
  fi 47 (.indexAddr 1 (.t 33) (.t 34)),
  st (.store 1 (.t 47) (.t 42)),
  fi 48 (.indexAddr 1 (.t 35) (.t 37)),
  st (.store 1 (.t 48) (.t 46))]))
 (.reg [] [fi 31 (.mv (.t 7)),
  fi 32 (.bin .sub (.t 31) (.c (.int .i64 1))),
  fi 7 (.mv (.t 32))])))
def l_slices_insertionSortOrdered_string_1 : Cd := (.seq (.seq (.reg [] [fi 10 (.mv (.t 6)),
  fi 11 (.mv (.t 2)),
  fi 12 (.bin .lss (.t 10) (.t 11))])
 (.ite (.t 12)
 .skip
 (.exit 0)))
 (.seq (.blk 1 (.seq (.reg [] [fi 15 (.mv (.t 6)),
  fi 7 (.mv (.t 15))])
 (.blk 2 (.loop l_slices_insertionSortOrdered_string_0))))
 (.reg [] [fi 13 (.mv (.t 6)),
  fi 14 (.bin .add (.t 13) (.c (.int .i64 1))),
  fi 6 (.mv (.t 14))])))
def b_slices_insertionSortOrdered_string : Cd := (.seq (.reg [] [fi 8 (.mv (.t 1)),
  fi 9 (.bin .add (.t 8) (.c (.int .i64 1))),
  fi 6 (.mv (.t 9))])
 (.blk 0 (.loop l_slices_insertionSortOrdered_string_1)))
theorem k_slices_insertionSortOrdered_string : chkFn Tryz.prog n_slices_insertionSortOrdered_string ⟨b_slices_insertionSortOrdered_string, [], 49⟩ = true := by kernel_rfl
abbrev n_slices_insertionSortOrdered_uint64 : Nat := 131
def l_slices_insertionSortOrdered_uint64_0 : Cd := (.seq (.seq (.reg [0, 1, 2, 3, 4, 5, 6, 7, 8, 9, 10, 11, 12, 13, 14] [fi 16 (.mv (.t 7)),
  fi 17 (.mv (.t 1)),
  fi 18 (.bin .gtr (.t 16) (.t 17)),
  fi 19 (.mv (.t 18)),
  .run ⟨(some 20), (some (19, true)), .f (.mv (.t 0))⟩,
  .run ⟨(some 21), (some (19, true)), .f (.mv (.t 7))⟩,
  .run ⟨(some 22), (some (19, true)), .f (.indexAddr 1 (.t 20) (.t 21))⟩,
  .run ⟨(some 23), (some (19, true)), .f (.load false 1 (.t 22))⟩,
  .run ⟨(some 24), (some (19, true)), .f (.mv (.t 0))⟩,
  .run ⟨(some 25), (some (19, true)), .f (.mv (.t 7))⟩,
  .run ⟨(some 26), (some (19, true)), .f (.bin .sub (.t 25) (.c (.int .i64 1)))⟩,
  .run ⟨(some 27), (some (19, true)), .f (.indexAddr 1 (.t 24) (.t 26))⟩,
  .run ⟨(some 28), (some (19, true)), .f (.load false 1 (.t 27))⟩,
  .run ⟨(some 29), (some (19, true)), .e (.call 137 [(.t 23), (.t 28)])⟩,
  fi 30 (.pick (.t 19) (.t 29) (.c (.bool false)))])
 (.ite (.t 30)
 .skip
 (.exit 2)))
 (.seq (.blk 3 (.reg [0, 1, 2, 3, 4, 5, 6, 7, 8, 9, 10, 11, 12, 13, 14, 15, 16, 17] [fi 33 (.mv (.t 0)),
  fi 34 (.mv (.t 7)),
  fi 35 (.mv (.t 0)),
  fi 36 (.mv (.t 7)),
  fi 37 (.bin .sub (.t 36) (.c (.int .i64 1))),
  fi 38 (.mv (.t 0)),
  fi 39 (.mv (.t 7)),
  fi 40 (.bin .sub (.t 39) (.c (.int .i64 1))),
  fi 41 (.indexAddr 1 (.t 38) (.t 40)),
  fi 42 (.load false 1 (.t 41)),
  fi 43 (.mv (.t 0)),
  fi 44 (.mv (.t 7)),
  fi 45 (.indexAddr 1 (.t 43) (.t 44)),
  fi 46 (.load false 1 (.t 45)),
  fi 47 (.indexAddr 1 (.t 33) (.t 34)),
  st (.store 1 (.t 47) (.t 42)),
  fi 48 (.indexAddr 1 (.t 35) (.t 37)),
  st (.store 1 (.t 48) (.t 46))]))
 (.reg [] [fi 31 (.mv (.t 7)),
  fi 32 (.bin .sub (.t 31) (.c (.int .i64 1))),
  fi 7 (.mv (.t 32))])))
def l_slices_insertionSortOrdered_uint64_1 : Cd := (.seq (.seq (.reg [] [fi 10 (.mv (.t 6)),
  fi 11 (.mv (.t 2)),
  fi 12 (.bin .lss (.t 10) (.t 11))])
 (.ite (.t 12)
 .skip
 (.exit 0)))
 (.seq (.blk 1 (.seq (.reg [] [fi 15 (.mv (.t 6)),
  fi 7 (.mv (.t 15))])
 (.blk 2 (.loop l_slices_insertionSortOrdered_uint64_0))))
 (.reg [] [fi 13 (.mv (.t 6)),
  fi 14 (.bin .add (.t 13) (.c (.int .i64 1))),
  fi 6 (.mv (.t 14))])))
def b_slices_insertionSortOrdered_uint64 : Cd := (.seq (.reg [] [fi 8 (.mv (.t 1)),
  fi 9 (.bin .add (.t 8) (.c (.int .i64 1))),
  fi 6 (.mv (.t 9))])
 (.blk 0 (.loop l_slices_insertionSortOrdered_uint64_1)))
theorem k_slices_insertionSortOrdered_uint64 : chkFn Tryz.prog n_slices_insertionSortOrdered_uint64 ⟨b_slices_insertionSortOrdered_uint64, [], 49⟩ = true := by kernel_rfl
abbrev n_slices_medianCmpFunc_ring_point : Nat := 247
def b_slices_medianCmpFunc_ring_point : Cd := (.seq (.reg [] [fi 12 (.mv (.c (.int .i64 0)))])
 (.seq (.reg [] [fi 14 (.mv (.t 0)),
  fi 15 (.mv (.t 1)),
  fi 16 (.mv (.t 2)),
  fi 17 (.mv (.t 4)),
  fi 18 (.mv (.t 5)),
  ei 19 (.call 280 [(.t 14), (.t 15), (.t 16), (.t 17), (.t 18)]),
  fi 13 (.mv (.t 19)),
  fi 20 (.extract (.t 13) 0),
  fi 21 (.extract (.t 13) 1),
  fi 1 (.mv (.t 20)),
  fi 2 (.mv (.t 21))])
 (.seq (.reg [] [fi 23 (.mv (.t 0)),
  fi 24 (.mv (.t 2)),
  fi 25 (.mv (.t 3)),
  fi 26 (.mv (.t 4)),
  fi 27 (.mv (.t 5)),
  ei 28 (.call 280 [(.t 23), (.t 24), (.t 25), (.t 26), (.t 27)]),
  fi 22 (.mv (.t 28)),
  fi 29 (.extract (.t 22) 0),
  fi 30 (.extract (.t 22) 1),
  fi 2 (.mv (.t 29)),
  fi 3 (.mv (.t 30))])
 (.seq (.reg [] [fi 32 (.mv (.t 0)),
  fi 33 (.mv (.t 1)),
  fi 34 (.mv (.t 2)),
  fi 35 (.mv (.t 4)),
  fi 36 (.mv (.t 5)),
  ei 37 (.call 280 [(.t 32), (.t 33), (.t 34), (.t 35), (.t 36)]),
  fi 31 (.mv (.t 37)),
  fi 38 (.extract (.t 31) 0),
  fi 39 (.extract (.t 31) 1),
  fi 1 (.mv (.t 38)),
  fi 2 (.mv (.t 39))])
 (.seq (.reg [] [fi 40 (.mv (.t 2)),
  fi 12 (.mv (.t 40))])
 .ret)))))
theorem k_slices_medianCmpFunc_ring_point : chkFn Tryz.prog n_slices_medianCmpFunc_ring_point ⟨b_slices_medianCmpFunc_ring_point, [.tmp 12], 41⟩ = true := by kernel_rfl
abbrev n_slices_order2CmpFunc_ring_point : Nat := 280
def b_slices_order2CmpFunc_ring_point : Cd := (.seq (.reg [] [fi 10 (.mv (.c (.int .i64 0))),
  fi 11 (.mv (.c (.int .i64 0)))])
 (.seq (.seq (.reg [0, 1, 2, 3, 4, 5, 6, 7, 8, 9, 10] [fi 12 (.mv (.t 4)),
  fi 13 (.mv (.t 0)),
  fi 14 (.mv (.t 2)),
  fi 15 (.indexAddr 2 (.t 13) (.t 14)),
  fi 16 (.load true 2 (.t 15)),
  fi 17 (.mv (.t 0)),
  fi 18 (.mv (.t 1)),
  fi 19 (.indexAddr 2 (.t 17) (.t 18)),
  fi 20 (.load true 2 (.t 19)),
  ei 21 (.callV (.t 12) [(.t 16), (.t 20)]),
  fi 22 (.bin .lss (.t 21) (.c (.int .i64 0)))])
 (.ite (.t 22)
 (.seq (.reg [] [fi 23 (.mv (.t 3)),
  fi 24 (.nilCheck (.t 23)),
  fi 25 (.load false 1 (.t 24)),
  fi 26 (.bin .add (.t 25) (.c (.int .i64 1))),
  fi 27 (.nilCheck (.t 23)),
  st (.store 1 (.t 27) (.t 26))])
 (.seq (.reg [] [fi 28 (.mv (.t 2)),
  fi 29 (.mv (.t 1)),
  fi 10 (.mv (.t 28)),
  fi 11 (.mv (.t 29))])
 .ret))
 .skip))
 (.seq (.reg [] [fi 30 (.mv (.t 1)),
  fi 31 (.mv (.t 2)),
  fi 10 (.mv (.t 30)),
  fi 11 (.mv (.t 31))])
 .ret)))
theorem k_slices_order2CmpFunc_ring_point : chkFn Tryz.prog n_slices_order2CmpFunc_ring_point ⟨b_slices_order2CmpFunc_ring_point, [.tmp 10, .tmp 11], 32⟩ = true := by kernel_rfl
abbrev n_slices_partitionCmpFunc_ring_point : Nat := 194
def l_slices_partitionCmpFunc_ring_point_0 : Cd := (.seq (.seq (.reg [0, 1, 2, 3, 4, 5, 6, 7, 8, 9, 10, 11, 12, 13, 14, 15] [fi 32 (.mv (.t 12)),
  fi 33 (.mv (.t 13)),
  fi 34 (.bin .leq (.t 32) (.t 33)),
  fi 35 (.mv (.t 34)),
  .run ⟨(some 36), (some (35, true)), .f (.mv (.t 4))⟩,
  .run ⟨(some 37), (some (35, true)), .f (.mv (.t 0))⟩,
  .run ⟨(some 38), (some (35, true)), .f (.mv (.t 12))⟩,
  .run ⟨(some 39), (some (35, true)), .f (.indexAddr 2 (.t 37) (.t 38))⟩,
  .run ⟨(some 40), (some (35, true)), .f (.load true 2 (.t 39))⟩,
  .run ⟨(some 41), (some (35, true)), .f (.mv (.t 0))⟩,
  .run ⟨(some 42), (some (35, true)), .f (.mv (.t 1))⟩,
  .run ⟨(some 43), (some (35, true)), .f (.indexAddr 2 (.t 41) (.t 42))⟩,
  .run ⟨(some 44), (some (35, true)), .f (.load true 2 (.t 43))⟩,
  .run ⟨(some 45), (some (35, true)), .e (.callV (.t 36) [(.t 40), (.t 44)])⟩,
  .run ⟨(some 46), (some (35, true)), .f (.bin .lss (.t 45) (.c (.int .i64 0)))⟩,
  fi 47 (.pick (.t 35) (.t 46) (.c (.bool false)))])
 (.ite (.t 47)
 .skip
 (.exit 0)))
 (.blk 1 (.reg [] [fi 48 (.mv (.t 12)),
  fi 49 (.bin .add (.t 48) (.c (.int .i64 1))),
  fi 12 (.mv (.t 49))])))
def l_slices_partitionCmpFunc_ring_point_1 : Cd := (.seq (.seq (.reg [0, 1, 2, 3, 4, 5, 6, 7, 8, 9, 10, 11, 12, 13, 14, 15, 16] [fi 50 (.mv (.t 12)),
  fi 51 (.mv (.t 13)),
  fi 52 (.bin .leq (.t 50) (.t 51)),
  fi 53 (.mv (.t 52)),
  .run ⟨(some 54), (some (53, true)), .f (.mv (.t 4))⟩,
  .run ⟨(some 55), (some (53, true)), .f (.mv (.t 0))⟩,
  .run ⟨(some 56), (some (53, true)), .f (.mv (.t 13))⟩,
  .run ⟨(some 57), (some (53, true)), .f (.indexAddr 2 (.t 55) (.t 56))⟩,
  .run ⟨(some 58), (some (53, true)), .f (.load true 2 (.t 57))⟩,
  .run ⟨(some 59), (some (53, true)), .f (.mv (.t 0))⟩,
  .run ⟨(some 60), (some (53, true)), .f (.mv (.t 1))⟩,
  .run ⟨(some 61), (some (53, true)), .f (.indexAddr 2 (.t 59) (.t 60))⟩,
  .run ⟨(some 62), (some (53, true)), .f (.load true 2 (.t 61))⟩,
  .run ⟨(some 63), (some (53, true)), .e (.callV (.t 54) [(.t 58), (.t 62)])⟩,
  .run ⟨(some 64), (some (53, true)), .f (.bin .lss (.t 63) (.c (.int .i64 0)))⟩,
  .run ⟨(some 65), (some (53, true)), .f (.un .not (.t 64))⟩,
  fi 66 (.pick (.t 53) (.t 65) (.c (.bool false)))])
 (.ite (.t 66)
 .skip
 (.exit 2)))
 (.blk 3 (.reg [] [fi 67 (.mv (.t 13)),
  fi 68 (.bin .sub (.t 67) (.c (.int .i64 1))),
  fi 13 (.mv (.t 68))])))
def l_slices_partitionCmpFunc_ring_point_2 : Cd := (.seq (.seq (.reg [0, 1, 2, 3, 4, 5, 6, 7, 8, 9, 10, 11, 12, 13, 14, 15] [fi 105 (.mv (.t 12)),
  fi 106 (.mv (.t 13)),
  fi 107 (.bin .leq (.t 105) (.t 106)),
  fi 108 (.mv (.t 107)),
  .run ⟨(some 109), (some (108, true)), .f (.mv (.t 4))⟩,
  .run ⟨(some 110), (some (108, true)), .f (.mv (.t 0))⟩,
  .run ⟨(some 111), (some (108, true)), .f (.mv (.t 12))⟩,
  .run ⟨(some 112), (some (108, true)), .f (.indexAddr 2 (.t 110) (.t 111))⟩,
  .run ⟨(some 113), (some (108, true)), .f (.load true 2 (.t 112))⟩,
  .run ⟨(some 114), (some (108, true)), .f (.mv (.t 0))⟩,
  .run ⟨(some 115), (some (108, true)), .f (.mv (.t 1))⟩,
  .run ⟨(some 116), (some (108, true)), .f (.indexAddr 2 (.t 114) (.t 115))⟩,
  .run ⟨(some 117), (some (108, true)), .f (.load true 2 (.t 116))⟩,
  .run ⟨(some 118), (some (108, true)), .e (.callV (.t 109) [(.t 113), (.t 117)])⟩,
  .run ⟨(some 119), (some (108, true)), .f (.bin .lss (.t 118) (.c (.int .i64 0)))⟩,
  fi 120 (.pick (.t 108) (.t 119) (.c (.bool false)))])
 (.ite (.t 120)
 .skip
 (.exit 6)))
 (.blk 7 (.reg [] [fi 121 (.mv (.t 12)),
  fi 122 (.bin .add (.t 121) (.c (.int .i64 1))),
  fi 12 (.mv (.t 122))])))
def l_slices_partitionCmpFunc_ring_point_3 : Cd := (.seq (.seq (.reg [0, 1, 2, 3, 4, 5, 6, 7, 8, 9, 10, 11, 12, 13, 14, 15, 16] [fi 123 (.mv (.t 12)),
  fi 124 (.mv (.t 13)),
  fi 125 (.bin .leq (.t 123) (.t 124)),
  fi 126 (.mv (.t 125)),
  .run ⟨(some 127), (some (126, true)), .f (.mv (.t 4))⟩,
  .run ⟨(some 128), (some (126, true)), .f (.mv (.t 0))⟩,
  .run ⟨(some 129), (some (126, true)), .f (.mv (.t 13))⟩,
  .run ⟨(some 130), (some (126, true)), .f (.indexAddr 2 (.t 128) (.t 129))⟩,
  .run ⟨(some 131), (some (126, true)), .f (.load true 2 (.t 130))⟩,
  .run ⟨(some 132), (some (126, true)), .f (.mv (.t 0))⟩,
  .run ⟨(some 133), (some (126, true)), .f (.mv (.t 1))⟩,
  .run ⟨(some 134), (some (126, true)), .f (.indexAddr 2 (.t 132) (.t 133))⟩,
  .run ⟨(some 135), (some (126, true)), .f (.load true 2 (.t 134))⟩,
  .run ⟨(some 136), (some (126, true)), .e (.callV (.t 127) [(.t 131), (.t 135)])⟩,
  .run ⟨(some 137), (some (126, true)), .f (.bin .lss (.t 136) (.c (.int .i64 0)))⟩,
  .run ⟨(some 138), (some (126, true)), .f (.un .not (.t 137))⟩,
  fi 139 (.pick (.t 126) (.t 138) (.c (.bool false)))])
 (.ite (.t 139)
 .skip
 (.exit 8)))
 (.blk 9 (.reg [] [fi 140 (.mv (.t 13)),
  fi 141 (.bin .sub (.t 140) (.c (.int .i64 1))),
  fi 13 (.mv (.t 141))])))
def s_slices_partitionCmpFunc_ring_point_0 : Cd := (.seq (.seq (.reg [] [fi 142 (.mv (.t 12)),
  fi 143 (.mv (.t 13)),
  fi 144 (.bin .gtr (.t 142) (.t 143))])
 (.ite (.t 144)
 (.exit 4)
 .skip))
 (.seq (.reg [0, 1, 2, 3, 4, 5, 6, 7, 8, 9, 10, 11, 12, 13, 14, 15] [fi 145 (.mv (.t 0)),
  fi 146 (.mv (.t 12)),
  fi 147 (.mv (.t 0)),
  fi 148 (.mv (.t 13)),
  fi 149 (.mv (.t 0)),
  fi 150 (.mv (.t 13)),
  fi 151 (.indexAddr 2 (.t 149) (.t 150)),
  fi 152 (.load true 2 (.t 151)),
  fi 153 (.mv (.t 0)),
  fi 154 (.mv (.t 12)),
  fi 155 (.indexAddr 2 (.t 153) (.t 154)),
  fi 156 (.load true 2 (.t 155)),
  fi 157 (.indexAddr 2 (.t 145) (.t 146)),
  st (.store 2 (.t 157) (.t 152)),
  fi 158 (.indexAddr 2 (.t 147) (.t 148)),
  st (.store 2 (.t 158) (.t 156))])
 (.seq (.reg [] [fi 159 (.mv (.t 12)),
  fi 160 (.bin .add (.t 159) (.c (.int .i64 1))),
  fi 12 (.mv (.t 160))])
 (.reg [] [fi 161 (.mv (.t 13)),
  fi 162 (.bin .sub (.t 161) (.c (.int .i64 1))),
  fi 13 (.mv (.t 162))]))))
def l_slices_partitionCmpFunc_ring_point_4 : Cd := (.blk 5 (.seq (.blk 6 (.loop l_slices_partitionCmpFunc_ring_point_2))
 (.seq (.blk 8 (.loop l_slices_partitionCmpFunc_ring_point_3))
 s_slices_partitionCmpFunc_ring_point_0)))
def s_slices_partitionCmpFunc_ring_point_1 : Cd := (.seq (.reg [0, 1, 2, 3, 4, 5, 6, 7, 8, 9, 10, 11, 12, 13, 14, 15] [fi 163 (.mv (.t 0)),
  fi 164 (.mv (.t 13)),
  fi 165 (.mv (.t 0)),
  fi 166 (.mv (.t 1)),
  fi 167 (.mv (.t 0)),
  fi 168 (.mv (.t 1)),
  fi 169 (.indexAddr 2 (.t 167) (.t 168)),
  fi 170 (.load true 2 (.t 169)),
  fi 171 (.mv (.t 0)),
  fi 172 (.mv (.t 13)),
  fi 173 (.indexAddr 2 (.t 171) (.t 172)),
  fi 174 (.load true 2 (.t 173)),
  fi 175 (.indexAddr 2 (.t 163) (.t 164)),
  st (.store 2 (.t 175) (.t 170)),
  fi 176 (.indexAddr 2 (.t 165) (.t 166)),
  st (.store 2 (.t 176) (.t 174))])
 (.seq (.reg [] [fi 177 (.mv (.t 13)),
  fi 10 (.mv (.t 177)),
  fi 11 (.mv (.c (.bool false)))])
 .ret))
def s_slices_partitionCmpFunc_ring_point_2 : Cd := (.seq (.seq (.reg [] [fi 69 (.mv (.t 12)),
  fi 70 (.mv (.t 13)),
  fi 71 (.bin .gtr (.t 69) (.t 70))])
 (.ite (.t 71)
 (.seq (.reg [0, 1, 2, 3, 4, 5, 6, 7, 8, 9, 10, 11, 12, 13, 14, 15] [fi 72 (.mv (.t 0)),
  fi 73 (.mv (.t 13)),
  fi 74 (.mv (.t 0)),
  fi 75 (.mv (.t 1)),
  fi 76 (.mv (.t 0)),
  fi 77 (.mv (.t 1)),
  fi 78 (.indexAddr 2 (.t 76) (.t 77)),
  fi 79 (.load true 2 (.t 78)),
  fi 80 (.mv (.t 0)),
  fi 81 (.mv (.t 13)),
  fi 82 (.indexAddr 2 (.t 80) (.t 81)),
  fi 83 (.load true 2 (.t 82)),
  fi 84 (.indexAddr 2 (.t 72) (.t 73)),
  st (.store 2 (.t 84) (.t 79)),
  fi 85 (.indexAddr 2 (.t 74) (.t 75)),
  st (.store 2 (.t 85) (.t 83))])
 (.seq (.reg [] [fi 86 (.mv (.t 13)),
  fi 10 (.mv (.t 86)),
  fi 11 (.mv (.c (.bool true)))])
 .ret))
 .skip))
 (.seq (.reg [0, 1, 2, 3, 4, 5, 6, 7, 8, 9, 10, 11, 12, 13, 14, 15] [fi 87 (.mv (.t 0)),
  fi 88 (.mv (.t 12)),
  fi 89 (.mv (.t 0)),
  fi 90 (.mv (.t 13)),
  fi 91 (.mv (.t 0)),
  fi 92 (.mv (.t 13)),
  fi 93 (.indexAddr 2 (.t 91) (.t 92)),
  fi 94 (.load true 2 (.t 93)),
  fi 95 (.mv (.t 0)),
  fi 96 (.mv (.t 12)),
  fi 97 (.indexAddr 2 (.t 95) (.t 96)),
  fi 98 (.load true 2 (.t 97)),
  fi 99 (.indexAddr 2 (.t 87) (.t 88)),
  st (.store 2 (.t 99) (.t 94)),
  fi 100 (.indexAddr 2 (.t 89) (.t 90)),
  st (.store 2 (.t 100) (.t 98))])
 (.seq (.reg [] [fi 101 (.mv (.t 12)),
  fi 102 (.bin .add (.t 101) (.c (.int .i64 1))),
  fi 12 (.mv (.t 102))])
 (.seq (.reg [] [fi 103 (.mv (.t 13)),
  fi 104 (.bin .sub (.t 103) (.c (.int .i64 1))),
  fi 13 (.mv (.t 104))])
 (.seq (.blk 4 (.loop l_slices_partitionCmpFunc_ring_point_4))
 s_slices_partitionCmpFunc_ring_point_1)))))
def b_slices_partitionCmpFunc_ring_point : Cd := (.seq (.reg [] [fi 10 (.mv (.c (.int .i64 0))),
  fi 11 (.mv (.c (.bool false)))])
 (.seq (.reg [0, 1, 2, 3, 4, 5, 6, 7, 8, 9, 10, 11, 12, 13, 14, 15] [fi 14 (.mv (.t 0)),
  fi 15 (.mv (.t 1)),
  fi 16 (.mv (.t 0)),
  fi 17 (.mv (.t 3)),
  fi 18 (.mv (.t 0)),
  fi 19 (.mv (.t 3)),
  fi 20 (.indexAddr 2 (.t 18) (.t 19)),
  fi 21 (.load true 2 (.t 20)),
  fi 22 (.mv (.t 0)),
  fi 23 (.mv (.t 1)),
  fi 24 (.indexAddr 2 (.t 22) (.t 23)),
  fi 25 (.load true 2 (.t 24)),
  fi 26 (.indexAddr 2 (.t 14) (.t 15)),
  st (.store 2 (.t 26) (.t 21)),
  fi 27 (.indexAddr 2 (.t 16) (.t 17)),
  st (.store 2 (.t 27) (.t 25))])
 (.seq (.reg [] [fi 28 (.mv (.t 1)),
  fi 29 (.bin .add (.t 28) (.c (.int .i64 1))),
  fi 30 (.mv (.t 2)),
  fi 31 (.bin .sub (.t 30) (.c (.int .i64 1))),
  fi 12 (.mv (.t 29)),
  fi 13 (.mv (.t 31))])
 (.seq (.blk 0 (.loop l_slices_partitionCmpFunc_ring_point_0))
 (.seq (.blk 2 (.loop l_slices_partitionCmpFunc_ring_point_1))
 s_slices_partitionCmpFunc_ring_point_2)))))
theorem k_slices_partitionCmpFunc_ring_point : chkFn Tryz.prog n_slices_partitionCmpFunc_ring_point ⟨b_slices_partitionCmpFunc_ring_point, [.tmp 10, .tmp 11], 178⟩ = true := by kernel_rfl
abbrev n_slices_pdqsortCmpFunc_ring_point : Nat := 116
def k_slices_pdqsortCmpFunc_ring_point_0 : Cd := (.seq (.reg [] [fi 21 (.mv (.t 2)),
  fi 22 (.mv (.t 1)),
  fi 23 (.bin .sub (.t 21) (.t 22)),
  fi 12 (.mv (.t 23))])
 (.seq (.seq (.reg [] [fi 24 (.mv (.t 12)),
  fi 25 (.bin .leq (.t 24) (.c (.int .i64 12)))])
 (.ite (.t 25)
 (.seq (.reg [] [fi 26 (.mv (.t 0)),
  fi 27 (.mv (.t 1)),
  fi 28 (.mv (.t 2)),
  fi 29 (.mv (.t 4)),
  ei 30 (.call 187 [(.t 26), (.t 27), (.t 28), (.t 29)])])
 .ret)
 .skip))
 (.seq (.seq (.reg [] [fi 31 (.mv (.t 3)),
  fi 32 (.bin .eql (.t 31) (.c (.int .i64 0)))])
 (.ite (.t 32)
 (.seq (.reg [] [fi 33 (.mv (.t 0)),
  fi 34 (.mv (.t 1)),
  fi 35 (.mv (.t 2)),
  fi 36 (.mv (.t 4)),
  ei 37 (.call 188 [(.t 33), (.t 34), (.t 35), (.t 36)])])
 .ret)
 .skip))
 (.seq (.seq (.reg [] [fi 38 (.mv (.t 10)),
  fi 39 (.un .not (.t 38))])
 (.ite (.t 39)
 (.seq (.reg [] [fi 40 (.mv (.t 0)),
  fi 41 (.mv (.t 1)),
  fi 42 (.mv (.t 2)),
  fi 43 (.mv (.t 4)),
  ei 44 (.call 189 [(.t 40), (.t 41), (.t 42), (.t 43)])])
 (.reg [] [fi 45 (.mv (.t 3)),
  fi 46 (.bin .sub (.t 45) (.c (.int .i64 1))),
  fi 3 (.mv (.t 46))]))
 .skip))
 (.seq (.reg [] [fi 48 (.mv (.t 0)),
  fi 49 (.mv (.t 1)),
  fi 50 (.mv (.t 2)),
  fi 51 (.mv (.t 4)),
  ei 52 (.call 190 [(.t 48), (.t 49), (.t 50), (.t 51)]),
  fi 47 (.mv (.t 52)),
  fi 53 (.extract (.t 47) 0),
  fi 54 (.extract (.t 47) 1),
  fi 13 (.mv (.t 53)),
  fi 14 (.mv (.t 54))])
 (.seq (.seq (.reg [] [fi 55 (.mv (.t 14)),
  fi 56 (.bin .eql (.t 55) (.c (.int .i64 2)))])
 (.ite (.t 56)
 (.seq (.reg [] [fi 57 (.mv (.t 0)),
  fi 58 (.mv (.t 1)),
  fi 59 (.mv (.t 2)),
  fi 60 (.mv (.t 4)),
  ei 61 (.call 191 [(.t 57), (.t 58), (.t 59), (.t 60)])])
 (.seq (.reg [] [fi 62 (.mv (.t 2)),
  fi 63 (.bin .sub (.t 62) (.c (.int .i64 1))),
  fi 64 (.mv (.t 13)),
  fi 65 (.mv (.t 1)),
  fi 66 (.bin .sub (.t 64) (.t 65)),
  fi 67 (.bin .sub (.t 63) (.t 66)),
  fi 13 (.mv (.t 67))])
 (.reg [] [fi 14 (.mv (.c (.int .i64 1)))])))
 .skip))
 (.seq (.seq (.reg [] [fi 68 (.mv (.t 10)),
  fi 69 (.mv (.t 68)),
  .run ⟨(some 70), (some (69, true)), .f (.mv (.t 11))⟩,
  fi 71 (.pick (.t 69) (.t 70) (.c (.bool false))),
  fi 72 (.mv (.t 71)),
  .run ⟨(some 73), (some (72, true)), .f (.mv (.t 14))⟩,
  .run ⟨(some 74), (some (72, true)), .f (.bin .eql (.t 73) (.c (.int .i64 1)))⟩,
  fi 75 (.pick (.t 72) (.t 74) (.c (.bool false)))])
 (.ite (.t 75)
 (.seq (.reg [] [fi 76 (.mv (.t 0)),
  fi 77 (.mv (.t 1)),
  fi 78 (.mv (.t 2)),
  fi 79 (.mv (.t 4)),
  ei 80 (.call 192 [(.t 76), (.t 77), (.t 78), (.t 79)])])
 (.ite (.t 80)
 .ret
 .skip))
 .skip))
 (.seq (.seq (.reg [0, 1, 2, 3, 4, 5, 6, 7, 8, 9, 10, 11, 12, 13, 14, 15, 16] [fi 81 (.mv (.t 1)),
  fi 82 (.bin .gtr (.t 81) (.c (.int .i64 0))),
  fi 83 (.mv (.t 82)),
  .run ⟨(some 84), (some (83, true)), .f (.mv (.t 4))⟩,
  .run ⟨(some 85), (some (83, true)), .f (.mv (.t 0))⟩,
  .run ⟨(some 86), (some (83, true)), .f (.mv (.t 1))⟩,
  .run ⟨(some 87), (some (83, true)), .f (.bin .sub (.t 86) (.c (.int .i64 1)))⟩,
  .run ⟨(some 88), (some (83, true)), .f (.indexAddr 2 (.t 85) (.t 87))⟩,
  .run ⟨(some 89), (some (83, true)), .f (.load true 2 (.t 88))⟩,
  .run ⟨(some 90), (some (83, true)), .f (.mv (.t 0))⟩,
  .run ⟨(some 91), (some (83, true)), .f (.mv (.t 13))⟩,
  .run ⟨(some 92), (some (83, true)), .f (.indexAddr 2 (.t 90) (.t 91))⟩,
  .run ⟨(some 93), (some (83, true)), .f (.load true 2 (.t 92))⟩,
  .run ⟨(some 94), (some (83, true)), .e (.callV (.t 84) [(.t 89), (.t 93)])⟩,
  .run ⟨(some 95), (some (83, true)), .f (.bin .lss (.t 94) (.c (.int .i64 0)))⟩,
  .run ⟨(some 96), (some (83, true)), .f (.un .not (.t 95))⟩,
  fi 97 (.pick (.t 83) (.t 96) (.c (.bool false)))])
 (.ite (.t 97)
 (.seq (.reg [] [fi 98 (.mv (.t 0)),
  fi 99 (.mv (.t 1)),
  fi 100 (.mv (.t 2)),
  fi 101 (.mv (.t 13)),
  fi 102 (.mv (.t 4)),
  ei 103 (.call 193 [(.t 98), (.t 99), (.t 100), (.t 101), (.t 102)]),
  fi 15 (.mv (.t 103))])
 (.seq (.reg [] [fi 104 (.mv (.t 15)),
  fi 1 (.mv (.t 104))])
 (.exit 1)))
 .skip))
 (.seq (.reg [] [fi 106 (.mv (.t 0)),
  fi 107 (.mv (.t 1)),
  fi 108 (.mv (.t 2)),
  fi 109 (.mv (.t 13)),
  fi 110 (.mv (.t 4)),
  ei 111 (.call 194 [(.t 106), (.t 107), (.t 108), (.t 109), (.t 110)]),
  fi 105 (.mv (.t 111)),
  fi 112 (.extract (.t 105) 0),
  fi 113 (.extract (.t 105) 1),
  fi 16 (.mv (.t 112)),
  fi 17 (.mv (.t 113))])
 (.seq (.reg [] [fi 114 (.mv (.t 17)),
  fi 11 (.mv (.t 114))])
 (.seq (.reg [] [fi 115 (.mv (.t 16)),
  fi 116 (.mv (.t 1)),
  fi 117 (.bin .sub (.t 115) (.t 116)),
  fi 118 (.mv (.t 2)),
  fi 119 (.mv (.t 16)),
  fi 120 (.bin .sub (.t 118) (.t 119)),
  fi 18 (.mv (.t 117)),
  fi 19 (.mv (.t 120))])
 (.seq (.reg [] [fi 121 (.mv (.t 12)),
  fi 122 (.bin .quo (.t 121) (.c (.int .i64 8))),
  fi 20 (.mv (.t 122))])
 (.seq (.reg [] [fi 123 (.mv (.t 18)),
  fi 124 (.mv (.t 19)),
  fi 125 (.bin .lss (.t 123) (.t 124))])
 (.ite (.t 125)
 (.seq (.reg [] [fi 126 (.mv (.t 18)),
  fi 127 (.mv (.t 20)),
  fi 128 (.bin .geq (.t 126) (.t 127)),
  fi 10 (.mv (.t 128))])
 (.seq (.reg [] [fi 129 (.mv (.t 0)),
  fi 130 (.mv (.t 1)),
  fi 131 (.mv (.t 16)),
  fi 132 (.mv (.t 3)),
  fi 133 (.mv (.t 4)),
  ei 134 (.call 116 [(.t 129), (.t 130), (.t 131), (.t 132), (.t 133)])])
 (.reg [] [fi 135 (.mv (.t 16)),
  fi 136 (.bin .add (.t 135) (.c (.int .i64 1))),
  fi 1 (.mv (.t 136))])))
 (.seq (.reg [] [fi 137 (.mv (.t 19)),
  fi 138 (.mv (.t 20)),
  fi 139 (.bin .geq (.t 137) (.t 138)),
  fi 10 (.mv (.t 139))])
 (.seq (.reg [] [fi 140 (.mv (.t 0)),
  fi 141 (.mv (.t 16)),
  fi 142 (.bin .add (.t 141) (.c (.int .i64 1))),
  fi 143 (.mv (.t 2)),
  fi 144 (.mv (.t 3)),
  fi 145 (.mv (.t 4)),
  ei 146 (.call 116 [(.t 140), (.t 142), (.t 143), (.t 144), (.t 145)])])
 (.reg [] [fi 147 (.mv (.t 16)),
  fi 2 (.mv (.t 147))])))))))))))))))))
def l_slices_pdqsortCmpFunc_ring_point_0 : Cd := (.blk 1 k_slices_pdqsortCmpFunc_ring_point_0)
def b_slices_pdqsortCmpFunc_ring_point : Cd := (.seq (.reg [] [fi 10 (.mv (.c (.bool true)))])
 (.seq (.reg [] [fi 11 (.mv (.c (.bool true)))])
 (.blk 0 (.loop l_slices_pdqsortCmpFunc_ring_point_0))))
theorem k_slices_pdqsortCmpFunc_ring_point : chkFn Tryz.prog n_slices_pdqsortCmpFunc_ring_point ⟨b_slices_pdqsortCmpFunc_ring_point, [], 148⟩ = true := by kernel_rfl
abbrev n_slices_pdqsortOrdered_int : Nat := 88
def k_slices_pdqsortOrdered_int_0 : Cd := (.seq (.reg [] [fi 19 (.mv (.t 2)),
  fi 20 (.mv (.t 1)),
  fi 21 (.bin .sub (.t 19) (.t 20)),
  fi 10 (.mv (.t 21))])
 (.seq (.seq (.reg [] [fi 22 (.mv (.t 10)),
  fi 23 (.bin .leq (.t 22) (.c (.int .i64 12)))])
 (.ite (.t 23)
 (.seq (.reg [] [fi 24 (.mv (.t 0)),
  fi 25 (.mv (.t 1)),
  fi 26 (.mv (.t 2)),
  ei 27 (.call 144 [(.t 24), (.t 25), (.t 26)])])
 .ret)
 .skip))
 (.seq (.seq (.reg [] [fi 28 (.mv (.t 3)),
  fi 29 (.bin .eql (.t 28) (.c (.int .i64 0)))])
 (.ite (.t 29)
 (.seq (.reg [] [fi 30 (.mv (.t 0)),
  fi 31 (.mv (.t 1)),
  fi 32 (.mv (.t 2)),
  ei 33 (.call 145 [(.t 30), (.t 31), (.t 32)])])
 .ret)
 .skip))
 (.seq (.seq (.reg [] [fi 34 (.mv (.t 8)),
  fi 35 (.un .not (.t 34))])
 (.ite (.t 35)
 (.seq (.reg [] [fi 36 (.mv (.t 0)),
  fi 37 (.mv (.t 1)),
  fi 38 (.mv (.t 2)),
  ei 39 (.call 146 [(.t 36), (.t 37), (.t 38)])])
 (.reg [] [fi 40 (.mv (.t 3)),
  fi 41 (.bin .sub (.t 40) (.c (.int .i64 1))),
  fi 3 (.mv (.t 41))]))
 .skip))
 (.seq (.reg [] [fi 43 (.mv (.t 0)),
  fi 44 (.mv (.t 1)),
  fi 45 (.mv (.t 2)),
  ei 46 (.call 147 [(.t 43), (.t 44), (.t 45)]),
  fi 42 (.mv (.t 46)),
  fi 47 (.extract (.t 42) 0),
  fi 48 (.extract (.t 42) 1),
  fi 11 (.mv (.t 47)),
  fi 12 (.mv (.t 48))])
 (.seq (.seq (.reg [] [fi 49 (.mv (.t 12)),
  fi 50 (.bin .eql (.t 49) (.c (.int .i64 2)))])
 (.ite (.t 50)
 (.seq (.reg [] [fi 51 (.mv (.t 0)),
  fi 52 (.mv (.t 1)),
  fi 53 (.mv (.t 2)),
  ei 54 (.call 148 [(.t 51), (.t 52), (.t 53)])])
 (.seq (.reg [] [fi 55 (.mv (.t 2)),
  fi 56 (.bin .sub (.t 55) (.c (.int .i64 1))),
  fi 57 (.mv (.t 11)),
  fi 58 (.mv (.t 1)),
  fi 59 (.bin .sub (.t 57) (.t 58)),
  fi 60 (.bin .sub (.t 56) (.t 59)),
  fi 11 (.mv (.t 60))])
 (.reg [] [fi 12 (.mv (.c (.int .i64 1)))])))
 .skip))
 (.seq (.seq (.reg [] [fi 61 (.mv (.t 8)),
  fi 62 (.mv (.t 61)),
  .run ⟨(some 63), (some (62, true)), .f (.mv (.t 9))⟩,
  fi 64 (.pick (.t 62) (.t 63) (.c (.bool false))),
  fi 65 (.mv (.t 64)),
  .run ⟨(some 66), (some (65, true)), .f (.mv (.t 12))⟩,
  .run ⟨(some 67), (some (65, true)), .f (.bin .eql (.t 66) (.c (.int .i64 1)))⟩,
  fi 68 (.pick (.t 65) (.t 67) (.c (.bool false)))])
 (.ite (.t 68)
 (.seq (.reg [] [fi 69 (.mv (.t 0)),
  fi 70 (.mv (.t 1)),
  fi 71 (.mv (.t 2)),
  ei 72 (.call 149 [(.t 69), (.t 70), (.t 71)])])
 (.ite (.t 72)
 .ret
 .skip))
 .skip))
 (.seq (.seq (.reg [0, 1, 2, 3, 4, 5, 6, 7, 8, 9, 10, 11, 12, 13, 14] [fi 73 (.mv (.t 1)),
  fi 74 (.bin .gtr (.t 73) (.c (.int .i64 0))),
  fi 75 (.mv (.t 74)),
  .run ⟨(some 76), (some (75, true)), .f (.mv (.t 0))⟩,
  .run ⟨(some 77), (some (75, true)), .f (.mv (.t 1))⟩,
  .run ⟨(some 78), (some (75, true)), .f (.bin .sub (.t 77) (.c (.int .i64 1)))⟩,
  .run ⟨(some 79), (some (75, true)), .f (.indexAddr 1 (.t 76) (.t 78))⟩,
  .run ⟨(some 80), (some (75, true)), .f (.load false 1 (.t 79))⟩,
  .run ⟨(some 81), (some (75, true)), .f (.mv (.t 0))⟩,
  .run ⟨(some 82), (some (75, true)), .f (.mv (.t 11))⟩,
  .run ⟨(some 83), (some (75, true)), .f (.indexAddr 1 (.t 81) (.t 82))⟩,
  .run ⟨(some 84), (some (75, true)), .f (.load false 1 (.t 83))⟩,
  .run ⟨(some 85), (some (75, true)), .e (.call 150 [(.t 80), (.t 84)])⟩,
  .run ⟨(some 86), (some (75, true)), .f (.un .not (.t 85))⟩,
  fi 87 (.pick (.t 75) (.t 86) (.c (.bool false)))])
 (.ite (.t 87)
 (.seq (.reg [] [fi 88 (.mv (.t 0)),
  fi 89 (.mv (.t 1)),
  fi 90 (.mv (.t 2)),
  fi 91 (.mv (.t 11)),
  ei 92 (.call 151 [(.t 88), (.t 89), (.t 90), (.t 91)]),
  fi 13 (.mv (.t 92))])
 (.seq (.reg [] [fi 93 (.mv (.t 13)),
  fi 1 (.mv (.t 93))])
 (.exit 1)))
 .skip))
 (.seq (.reg [] [fi 95 (.mv (.t 0)),
  fi 96 (.mv (.t 1)),
  fi 97 (.mv (.t 2)),
  fi 98 (.mv (.t 11)),
  ei 99 (.call 152 [(.t 95), (.t 96), (.t 97), (.t 98)]),
  fi 94 (.mv (.t 99)),
  fi 100 (.extract (.t 94) 0),
  fi 101 (.extract (.t 94) 1),
  fi 14 (.mv (.t 100)),
  fi 15 (.mv (.t 101))])
 (.seq (.reg [] [fi 102 (.mv (.t 15)),
  fi 9 (.mv (.t 102))])
 (.seq (.reg [] [fi 103 (.mv (.t 14)),
  fi 104 (.mv (.t 1)),
  fi 105 (.bin .sub (.t 103) (.t 104)),
  fi 106 (.mv (.t 2)),
  fi 107 (.mv (.t 14)),
  fi 108 (.bin .sub (.t 106) (.t 107)),
  fi 16 (.mv (.t 105)),
  fi 17 (.mv (.t 108))])
 (.seq (.reg [] [fi 109 (.mv (.t 10)),
  fi 110 (.bin .quo (.t 109) (.c (.int .i64 8))),
  fi 18 (.mv (.t 110))])
 (.seq (.reg [] [fi 111 (.mv (.t 16)),
  fi 112 (.mv (.t 17)),
  fi 113 (.bin .lss (.t 111) (.t 112))])
 (.ite (.t 113)
 (.seq (.reg [] [fi 114 (.mv (.t 16)),
  fi 115 (.mv (.t 18)),
  fi 116 (.bin .geq (.t 114) (.t 115)),
  fi 8 (.mv (.t 116))])
 (.seq (.reg [] [fi 117 (.mv (.t 0)),
  fi 118 (.mv (.t 1)),
  fi 119 (.mv (.t 14)),
  fi 120 (.mv (.t 3)),
  ei 121 (.call 88 [(.t 117), (.t 118), (.t 119), (.t 120)])])
 (.reg [] [fi 122 (.mv (.t 14)),
  fi 123 (.bin .add (.t 122) (.c (.int .i64 1))),
  fi 1 (.mv (.t 123))])))
 (.seq (.reg [] [fi 124 (.mv (.t 17)),
  fi 125 (.mv (.t 18)),
  fi 126 (.bin .geq (.t 124) (.t 125)),
  fi 8 (.mv (.t 126))])
 (.seq (.reg [] [fi 127 (.mv (.t 0)),
  fi 128 (.mv (.t 14)),
  fi 129 (.bin .add (.t 128) (.c (.int .i64 1))),
  fi 130 (.mv (.t 2)),
  fi 131 (.mv (.t 3)),
  ei 132 (.call 88 [(.t 127), (.t 129), (.t 130), (.t 131)])])
 (.reg [] [fi 133 (.mv (.t 14)),
  fi 2 (.mv (.t 133))])))))))))))))))))
def l_slices_pdqsortOrdered_int_0 : Cd := (.blk 1 k_slices_pdqsortOrdered_int_0)
def b_slices_pdqsortOrdered_int : Cd := (.seq (.reg [] [fi 8 (.mv (.c (.bool true)))])
 (.seq (.reg [] [fi 9 (.mv (.c (.bool true)))])
 (.blk 0 (.loop l_slices_pdqsortOrdered_int_0))))
theorem k_slices_pdqsortOrdered_int : chkFn Tryz.prog n_slices_pdqsortOrdered_int ⟨b_slices_pdqsortOrdered_int, [], 134⟩ = true := by kernel_rfl
abbrev n_slices_pdqsortOrdered_string : Nat := 309
def k_slices_pdqsortOrdered_string_0 : Cd := (.seq (.reg [] [fi 19 (.mv (.t 2)),
  fi 20 (.mv (.t 1)),
  fi 21 (.bin .sub (.t 19) (.t 20)),
  fi 10 (.mv (.t 21))])
 (.seq (.seq (.reg [] [fi 22 (.mv (.t 10)),
  fi 23 (.bin .leq (.t 22) (.c (.int .i64 12)))])
 (.ite (.t 23)
 (.seq (.reg [] [fi 24 (.mv (.t 0)),
  fi 25 (.mv (.t 1)),
  fi 26 (.mv (.t 2)),
  ei 27 (.call 322 [(.t 24), (.t 25), (.t 26)])])
 .ret)
 .skip))
 (.seq (.seq (.reg [] [fi 28 (.mv (.t 3)),
  fi 29 (.bin .eql (.t 28) (.c (.int .i64 0)))])
 (.ite (.t 29)
 (.seq (.reg [] [fi 30 (.mv (.t 0)),
  fi 31 (.mv (.t 1)),
  fi 32 (.mv (.t 2)),
  ei 33 (.call 323 [(.t 30), (.t 31), (.t 32)])])
 .ret)
 .skip))
 (.seq (.seq (.reg [] [fi 34 (.mv (.t 8)),
  fi 35 (.un .not (.t 34))])
 (.ite (.t 35)
 (.seq (.reg [] [fi 36 (.mv (.t 0)),
  fi 37 (.mv (.t 1)),
  fi 38 (.mv (.t 2)),
  ei 39 (.call 324 [(.t 36), (.t 37), (.t 38)])])
 (.reg [] [fi 40 (.mv (.t 3)),
  fi 41 (.bin .sub (.t 40) (.c (.int .i64 1))),
  fi 3 (.mv (.t 41))]))
 .skip))
 (.seq (.reg [] [fi 43 (.mv (.t 0)),
  fi 44 (.mv (.t 1)),
  fi 45 (.mv (.t 2)),
  ei 46 (.call 325 [(.t 43), (.t 44), (.t 45)]),
  fi 42 (.mv (.t 46)),
  fi 47 (.extract (.t 42) 0),
  fi 48 (.extract (.t 42) 1),
  fi 11 (.mv (.t 47)),
  fi 12 (.mv (.t 48))])
 (.seq (.seq (.reg [] [fi 49 (.mv (.t 12)),
  fi 50 (.bin .eql (.t 49) (.c (.int .i64 2)))])
 (.ite (.t 50)
 (.seq (.reg [] [fi 51 (.mv (.t 0)),
  fi 52 (.mv (.t 1)),
  fi 53 (.mv (.t 2)),
  ei 54 (.call 326 [(.t 51), (.t 52), (.t 53)])])
 (.seq (.reg [] [fi 55 (.mv (.t 2)),
  fi 56 (.bin .sub (.t 55) (.c (.int .i64 1))),
  fi 57 (.mv (.t 11)),
  fi 58 (.mv (.t 1)),
  fi 59 (.bin .sub (.t 57) (.t 58)),
  fi 60 (.bin .sub (.t 56) (.t 59)),
  fi 11 (.mv (.t 60))])
 (.reg [] [fi 12 (.mv (.c (.int .i64 1)))])))
 .skip))
 (.seq (.seq (.reg [] [fi 61 (.mv (.t 8)),
  fi 62 (.mv (.t 61)),
  .run ⟨(some 63), (some (62, true)), .f (.mv (.t 9))⟩,
  fi 64 (.pick (.t 62) (.t 63) (.c (.bool false))),
  fi 65 (.mv (.t 64)),
  .run ⟨(some 66), (some (65, true)), .f (.mv (.t 12))⟩,
  .run ⟨(some 67), (some (65, true)), .f (.bin .eql (.t 66) (.c (.int .i64 1)))⟩,
  fi 68 (.pick (.t 65) (.t 67) (.c (.bool false)))])
 (.ite (.t 68)
 (.seq (.reg [] [fi 69 (.mv (.t 0)),
  fi 70 (.mv (.t 1)),
  fi 71 (.mv (.t 2)),
  ei 72 (.call 327 [(.t 69), (.t 70), (.t 71)])])
 (.ite (.t 72)
 .ret
 .skip))
 .skip))
 (.seq (.seq (.reg [0, 1, 2, 3, 4, 5, 6, 7, 8, 9, 10, 11, 12, 13, 14] [fi 73 (.mv (.t 1)),
  fi 74 (.bin .gtr (.t 73) (.c (.int .i64 0))),
  fi 75 (.mv (.t 74)),
  .run ⟨(some 76), (some (75, true)), .f (.mv (.t 0))⟩,
  .run ⟨(some 77), (some (75, true)), .f (.mv (.t 1))⟩,
  .run ⟨(some 78), (some (75, true)), .f (.bin .sub (.t 77) (.c (.int .i64 1)))⟩,
  .run ⟨(some 79), (some (75, true)), .f (.indexAddr 1 (.t 76) (.t 78))⟩,
  .run ⟨(some 80), (some (75, true)), .f (.load false 1 (.t 79))⟩,
  .run ⟨(some 81), (some (75, true)), .f (.mv (.t 0))⟩,
  .run ⟨(some 82), (some (75, true)), .f (.mv (.t 11))⟩,
  .run ⟨(some 83), (some (75, true)), .f (.indexAddr 1 (.t 81) (.t 82))⟩,
  .run ⟨(some 84), (some (75, true)), .f (.load false 1 (.t 83))⟩,
  .run ⟨(some 85), (some (75, true)), .e (.call 312 [(.t 80), (.t 84)])⟩,
  .run ⟨(some 86), (some (75, true)), .f (.un .not (.t 85))⟩,
  fi 87 (.pick (.t 75) (.t 86) (.c (.bool false)))])
 (.ite (.t 87)
 (.seq (.reg [] [fi 88 (.mv (.t 0)),
  fi 89 (.mv (.t 1)),
  fi 90 (.mv (.t 2)),
  fi 91 (.mv (.t 11)),
  ei 92 (.call 328 [(.t 88), (.t 89), (.t 90), (.t 91)]),
  fi 13 (.mv (.t 92))])
 (.seq (.reg [] [fi 93 (.mv (.t 13)),
  fi 1 (.mv (.t 93))])
 (.exit 1)))
 .skip))
 (.seq (.reg [] [fi 95 (.mv (.t 0)),
  fi 96 (.mv (.t 1)),
  fi 97 (.mv (.t 2)),
  fi 98 (.mv (.t 11)),
  ei 99 (.call 329 [(.t 95), (.t 96), (.t 97), (.t 98)]),
  fi 94 (.mv (.t 99)),
  fi 100 (.extract (.t 94) 0),
  fi 101 (.extract (.t 94) 1),
  fi 14 (.mv (.t 100)),
  fi 15 (.mv (.t 101))])
 (.seq (.reg [] [fi 102 (.mv (.t 15)),
  fi 9 (.mv (.t 102))])
 (.seq (.reg [] [fi 103 (.mv (.t 14)),
  fi 104 (.mv (.t 1)),
  fi 105 (.bin .sub (.t 103) (.t 104)),
  fi 106 (.mv (.t 2)),
  fi 107 (.mv (.t 14)),
  fi 108 (.bin .sub (.t 106) (.t 107)),
  fi 16 (.mv (.t 105)),
  fi 17 (.mv (.t 108))])
 (.seq (.reg [] [fi 109 (.mv (.t 10)),
  fi 110 (.bin .quo (.t 109) (.c (.int .i64 8))),
  fi 18 (.mv (.t 110))])
 (.seq (.reg [] [fi 111 (.mv (.t 16)),
  fi 112 (.mv (.t 17)),
  fi 113 (.bin .lss (.t 111) (.t 112))])
 (.ite (.t 113)
 (.seq (.reg [] [fi 114 (.mv (.t 16)),
  fi 115 (.mv (.t 18)),
  fi 116 (.bin .geq (.t 114) (.t 115)),
  fi 8 (.mv (.t 116))])
 (.seq (.reg [] [fi 117 (.mv (.t 0)),
  fi 118 (.mv (.t 1)),
  fi 119 (.mv (.t 14)),
  fi 120 (.mv (.t 3)),
  ei 121 (.call 309 [(.t 117), (.t 118), (.t 119), (.t 120)])])
 (.reg [] [fi 122 (.mv (.t 14)),
  fi 123 (.bin .add (.t 122) (.c (.int .i64 1))),
  fi 1 (.mv (.t 123))])))
 (.seq (.reg [] [fi 124 (.mv (.t 17)),
  fi 125 (.mv (.t 18)),
  fi 126 (.bin .geq (.t 124) (.t 125)),
  fi 8 (.mv (.t 126))])
 (.seq (.reg [] [fi 127 (.mv (.t 0)),
  fi 128 (.mv (.t 14)),
  fi 129 (.bin .add (.t 128) (.c (.int .i64 1))),
  fi 130 (.mv (.t 2)),
  fi 131 (.mv (.t 3)),
  ei 132 (.call 309 [(.t 127), (.t 129), (.t 130), (.t 131)])])
 (.reg [] [fi 133 (.mv (.t 14)),
  fi 2 (.mv (.t 133))])))))))))))))))))
def l_slices_pdqsortOrdered_string_0 : Cd := (.blk 1 k_slices_pdqsortOrdered_string_0)
def b_slices_pdqsortOrdered_string : Cd := (.seq (.reg [] [fi 8 (.mv (.c (.bool true)))])
 (.seq (.reg [] [fi 9 (.mv (.c (.bool true)))])
 (.blk 0 (.loop l_slices_pdqsortOrdered_string_0))))
theorem k_slices_pdqsortOrdered_string : chkFn Tryz.prog n_slices_pdqsortOrdered_string ⟨b_slices_pdqsortOrdered_string, [], 134⟩ = true := by kernel_rfl
abbrev n_slices_pdqsortOrdered_uint64 : Nat := 84
def k_slices_pdqsortOrdered_uint64_0 : Cd := (.seq (.reg [] [fi 19 (.mv (.t 2)),
  fi 20 (.mv (.t 1)),
  fi 21 (.bin .sub (.t 19) (.t 20)),
  fi 10 (.mv (.t 21))])
 (.seq (.seq (.reg [] [fi 22 (.mv (.t 10)),
  fi 23 (.bin .leq (.t 22) (.c (.int .i64 12)))])
 (.ite (.t 23)
 (.seq (.reg [] [fi 24 (.mv (.t 0)),
  fi 25 (.mv (.t 1)),
  fi 26 (.mv (.t 2)),
  ei 27 (.call 131 [(.t 24), (.t 25), (.t 26)])])
 .ret)
 .skip))
 (.seq (.seq (.reg [] [fi 28 (.mv (.t 3)),
  fi 29 (.bin .eql (.t 28) (.c (.int .i64 0)))])
 (.ite (.t 29)
 (.seq (.reg [] [fi 30 (.mv (.t 0)),
  fi 31 (.mv (.t 1)),
  fi 32 (.mv (.t 2)),
  ei 33 (.call 132 [(.t 30), (.t 31), (.t 32)])])
 .ret)
 .skip))
 (.seq (.seq (.reg [] [fi 34 (.mv (.t 8)),
  fi 35 (.un .not (.t 34))])
 (.ite (.t 35)
 (.seq (.reg [] [fi 36 (.mv (.t 0)),
  fi 37 (.mv (.t 1)),
  fi 38 (.mv (.t 2)),
  ei 39 (.call 133 [(.t 36), (.t 37), (.t 38)])])
 (.reg [] [fi 40 (.mv (.t 3)),
  fi 41 (.bin .sub (.t 40) (.c (.int .i64 1))),
  fi 3 (.mv (.t 41))]))
 .skip))
 (.seq (.reg [] [fi 43 (.mv (.t 0)),
  fi 44 (.mv (.t 1)),
  fi 45 (.mv (.t 2)),
  ei 46 (.call 134 [(.t 43), (.t 44), (.t 45)]),
  fi 42 (.mv (.t 46)),
  fi 47 (.extract (.t 42) 0),
  fi 48 (.extract (.t 42) 1),
  fi 11 (.mv (.t 47)),
  fi 12 (.mv (.t 48))])
 (.seq (.seq (.reg [] [fi 49 (.mv (.t 12)),
  fi 50 (.bin .eql (.t 49) (.c (.int .i64 2)))])
 (.ite (.t 50)
 (.seq (.reg [] [fi 51 (.mv (.t 0)),
  fi 52 (.mv (.t 1)),
  fi 53 (.mv (.t 2)),
  ei 54 (.call 135 [(.t 51), (.t 52), (.t 53)])])
 (.seq (.reg [] [fi 55 (.mv (.t 2)),
  fi 56 (.bin .sub (.t 55) (.c (.int .i64 1))),
  fi 57 (.mv (.t 11)),
  fi 58 (.mv (.t 1)),
  fi 59 (.bin .sub (.t 57) (.t 58)),
  fi 60 (.bin .sub (.t 56) (.t 59)),
  fi 11 (.mv (.t 60))])
 (.reg [] [fi 12 (.mv (.c (.int .i64 1)))])))
 .skip))
 (.seq (.seq (.reg [] [fi 61 (.mv (.t 8)),
  fi 62 (.mv (.t 61)),
  .run ⟨(some 63), (some (62, true)), .f (.mv (.t 9))⟩,
  fi 64 (.pick (.t 62) (.t 63) (.c (.bool false))),
  fi 65 (.mv (.t 64)),
  .run ⟨(some 66), (some (65, true)), .f (.mv (.t 12))⟩,
  .run ⟨(some 67), (some (65, true)), .f (.bin .eql (.t 66) (.c (.int .i64 1)))⟩,
  fi 68 (.pick (.t 65) (.t 67) (.c (.bool false)))])
 (.ite (.t 68)
 (.seq (.reg [] [fi 69 (.mv (.t 0)),
  fi 70 (.mv (.t 1)),
  fi 71 (.mv (.t 2)),
  ei 72 (.call 136 [(.t 69), (.t 70), (.t 71)])])
 (.ite (.t 72)
 .ret
 .skip))
 .skip))
 (.seq (.seq (.reg [0, 1, 2, 3, 4, 5, 6, 7, 8, 9, 10, 11, 12, 13, 14] [fi 73 (.mv (.t 1)),
  fi 74 (.bin .gtr (.t 73) (.c (.int .i64 0))),
  fi 75 (.mv (.t 74)),
  .run ⟨(some 76), (some (75, true)), .f (.mv (.t 0))⟩,
  .run ⟨(some 77), (some (75, true)), .f (.mv (.t 1))⟩,
  .run ⟨(some 78), (some (75, true)), .f (.bin .sub (.t 77) (.c (.int .i64 1)))⟩,
  .run ⟨(some 79), (some (75, true)), .f (.indexAddr 1 (.t 76) (.t 78))⟩,
  .run ⟨(some 80), (some (75, true)), .f (.load false 1 (.t 79))⟩,
  .run ⟨(some 81), (some (75, true)), .f (.mv (.t 0))⟩,
  .run ⟨(some 82), (some (75, true)), .f (.mv (.t 11))⟩,
  .run ⟨(some 83), (some (75, true)), .f (.indexAddr 1 (.t 81) (.t 82))⟩,
  .run ⟨(some 84), (some (75, true)), .f (.load false 1 (.t 83))⟩,
  .run ⟨(some 85), (some (75, true)), .e (.call 137 [(.t 80), (.t 84)])⟩,
  .run ⟨(some 86), (some (75, true)), .f (.un .not (.t 85))⟩,
  fi 87 (.pick (.t 75) (.t 86) (.c (.bool false)))])
 (.ite (.t 87)
 (.seq (.reg [] [fi 88 (.mv (.t 0)),
  fi 89 (.mv (.t 1)),
  fi 90 (.mv (.t 2)),
  fi 91 (.mv (.t 11)),
  ei 92 (.call 138 [(.t 88), (.t 89), (.t 90), (.t 91)]),
  fi 13 (.mv (.t 92))])
 (.seq (.reg [] [fi 93 (.mv (.t 13)),
  fi 1 (.mv (.t 93))])
 (.exit 1)))
 .skip))
 (.seq (.reg [] [fi 95 (.mv (.t 0)),
  fi 96 (.mv (.t 1)),
  fi 97 (.mv (.t 2)),
  fi 98 (.mv (.t 11)),
  ei 99 (.call 139 [(.t 95), (.t 96), (.t 97), (.t 98)]),
  fi 94 (.mv (.t 99)),
  fi 100 (.extract (.t 94) 0),
  fi 101 (.extract (.t 94) 1),
  fi 14 (.mv (.t 100)),
  fi 15 (.mv (.t 101))])
 (.seq (.reg [] [fi 102 (.mv (.t 15)),
  fi 9 (.mv (.t 102))])
 (.seq (.reg [] [fi 103 (.mv (.t 14)),
  fi 104 (.mv (.t 1)),
  fi 105 (.bin .sub (.t 103) (.t 104)),
  fi 106 (.mv (.t 2)),
  fi 107 (.mv (.t 14)),
  fi 108 (.bin .sub (.t 106) (.t 107)),
  fi 16 (.mv (.t 105)),
  fi 17 (.mv (.t 108))])
 (.seq (.reg [] [fi 109 (.mv (.t 10)),
  fi 110 (.bin .quo (.t 109) (.c (.int .i64 8))),
  fi 18 (.mv (.t 110))])
 (.seq (.reg [] [fi 111 (.mv (.t 16)),
  fi 112 (.mv (.t 17)),
  fi 113 (.bin .lss (.t 111) (.t 112))])
 (.ite (.t 113)
 (.seq (.reg [] [fi 114 (.mv (.t 16)),
  fi 115 (.mv (.t 18)),
  fi 116 (.bin .geq (.t 114) (.t 115)),
  fi 8 (.mv (.t 116))])
 (.seq (.reg [] [fi 117 (.mv (.t 0)),
  fi 118 (.mv (.t 1)),
  fi 119 (.mv (.t 14)),
  fi 120 (.mv (.t 3)),
  ei 121 (.call 84 [(.t 117), (.t 118), (.t 119), (.t 120)])])
 (.reg [] [fi 122 (.mv (.t 14)),
  fi 123 (.bin .add (.t 122) (.c (.int .i64 1))),
  fi 1 (.mv (.t 123))])))
 (.seq (.reg [] [fi 124 (.mv (.t 17)),
  fi 125 (.mv (.t 18)),
  fi 126 (.bin .geq (.t 124) (.t 125)),
  fi 8 (.mv (.t 126))])
 (.seq (.reg [] [fi 127 (.mv (.t 0)),
  fi 128 (.mv (.t 14)),
  fi 129 (.bin .add (.t 128) (.c (.int .i64 1))),
  fi 130 (.mv (.t 2)),
  fi 131 (.mv (.t 3)),
  ei 132 (.call 84 [(.t 127), (.t 129), (.t 130), (.t 131)])])
 (.reg [] [fi 133 (.mv (.t 14)),
  fi 2 (.mv (.t 133))])))))))))))))))))
def l_slices_pdqsortOrdered_uint64_0 : Cd := (.blk 1 k_slices_pdqsortOrdered_uint64_0)
def b_slices_pdqsortOrdered_uint64 : Cd := (.seq (.reg [] [fi 8 (.mv (.c (.bool true)))])
 (.seq (.reg [] [fi 9 (.mv (.c (.bool true)))])
 (.blk 0 (.loop l_slices_pdqsortOrdered_uint64_0))))
theorem k_slices_pdqsortOrdered_uint64 : chkFn Tryz.prog n_slices_pdqsortOrdered_uint64 ⟨b_slices_pdqsortOrdered_uint64, [], 134⟩ = true := by kernel_rfl
abbrev n_strconv_Itoa : Nat := 49
def b_strconv_Itoa : Cd := (.seq (.reg [] [fi 2 (.mv (.c (.str (mkS []))))])
 (.seq (.reg [] [fi 3 (.mv (.t 0)),
  ei 4 (.call 96 [(.t 3)]),
  fi 2 (.mv (.t 4))])
 .ret))
theorem k_strconv_Itoa : chkFn Tryz.prog n_strconv_Itoa ⟨b_strconv_Itoa, [.tmp 2], 5⟩ = true := by kernel_rfl
abbrev n_strings_HasPrefix : Nat := 250
def b_strings_HasPrefix : Cd := (.seq (.reg [] [fi 4 (.mv (.c (.bool false)))])
 (.seq (.reg [] [fi 5 (.mv (.t 0)),
  fi 6 (.mv (.t 1)),
  ei 7 (.call 285 [(.t 5), (.t 6)]),
  fi 4 (.mv (.t 7))])
 .ret))
theorem k_strings_HasPrefix : chkFn Tryz.prog n_strings_HasPrefix ⟨b_strings_HasPrefix, [.tmp 4], 8⟩ = true := by kernel_rfl
abbrev n_strings_IndexByte : Nat := 251
def b_strings_IndexByte : Cd := (.seq (.reg [] [fi 4 (.mv (.c (.int .i64 0)))])
 (.seq (.reg [] [fi 5 (.mv (.t 0)),
  fi 6 (.mv (.t 1)),
  ei 7 (.call 286 [(.t 5), (.t 6)]),
  fi 4 (.mv (.t 7))])
 .ret))
theorem k_strings_IndexByte : chkFn Tryz.prog n_strings_IndexByte ⟨b_strings_IndexByte, [.tmp 4], 8⟩ = true := by kernel_rfl
end Go.VM
namespace Go.VM
open Go Go.Proofs
def tabL : List (Nat × FnC) := [(n_node_Node_Done, ⟨b_node_Node_Done, [.tmp 2], 14⟩),
 (n_node_Node_Holds, ⟨b_node_Node_Holds, [.tmp 4], 31⟩),
 (n_node_Node_Out, ⟨b_node_Node_Out, [.tmp 2], 14⟩),
 (n_node_Node_Search, ⟨b_node_Node_Search, [.tmp 8], 35⟩),
 (n_node_Node_Serves, ⟨b_node_Node_Serves, [.tmp 4], 51⟩),
 (n_node_Node_Tick, ⟨b_node_Node_Tick, [.tmp 4], 124⟩),
 (n_node_Node_Waits, ⟨b_node_Node_Waits, [.tmp 2], 10⟩),
 (n_node_Node_Write, ⟨b_node_Node_Write, [.tmp 6], 55⟩),
 (n_node_Node_apply, ⟨b_node_Node_apply, [], 52⟩),
 (n_node_Node_check, ⟨b_node_Node_check, [.tmp 4], 27⟩),
 (n_node_Node_end, ⟨b_node_Node_end, [], 28⟩),
 (n_node_Node_fill, ⟨b_node_Node_fill, [], 41⟩),
 (n_node_Node_look, ⟨b_node_Node_look, [], 114⟩),
 (n_node_Node_page, ⟨b_node_Node_page, [], 125⟩),
 (n_node_Node_push, ⟨b_node_Node_push, [], 120⟩),
 (n_node_Node_seek, ⟨b_node_Node_seek, [.tmp 6], 42⟩),
 (n_node_Node_send, ⟨b_node_Node_send, [], 39⟩),
 (n_node_Node_settle, ⟨b_node_Node_settle, [], 93⟩),
 (n_node_Node_step, ⟨b_node_Node_step, [], 93⟩),
 (n_node_Node_sure, ⟨b_node_Node_sure, [], 55⟩),
 (n_node_Node_tell, ⟨b_node_Node_tell, [], 86⟩),
 (n_node_Node_tickShard, ⟨b_node_Node_tickShard, [], 98⟩),
 (n_node_Node_tickWish, ⟨b_node_Node_tickWish, [], 52⟩),
 (n_node_Node_write, ⟨b_node_Node_write, [], 140⟩),
 (n_node_Open, ⟨b_node_Open, [.tmp 6, .tmp 7], 113⟩),
 (n_node_bit, ⟨b_node_bit, [.tmp 4], 8⟩),
 (n_node_message_encode, ⟨b_node_message_encode, [.tmp 2], 78⟩),
 (n_prim_New, ⟨b_prim_New, [.tmp 8], 21⟩),
 (n_prim_Prim_Needs, ⟨b_prim_Prim_Needs, [.tmp 2], 36⟩),
 (n_prim_Prim_Offer, ⟨b_prim_Prim_Offer, [.tmp 4], 63⟩),
 (n_prim_Prim_Peers, ⟨b_prim_Prim_Peers, [.tmp 2], 23⟩),
 (n_prim_Prim_Sure, ⟨b_prim_Prim_Sure, [.tmp 4], 37⟩),
 (n_prim_Prim_Table, ⟨b_prim_Prim_Table, [], 103⟩),
 (n_prim_Prim_Term, ⟨b_prim_Prim_Term, [.tmp 2], 9⟩),
 (n_copy_Copy_Append, ⟨b_copy_Copy_Append, [.tmp 4], 63⟩),
 (n_copy_Copy_Len, ⟨b_copy_Copy_Len, [.tmp 2], 10⟩),
 (n_copy_Copy_Ops, ⟨b_copy_Copy_Ops, [.tmp 2], 10⟩),
 (n_copy_Copy_Serve, ⟨b_copy_Copy_Serve, [.tmp 4], 31⟩),
 (n_copy_Copy_Terms, ⟨b_copy_Copy_Terms, [.cell 2 true 3], 10⟩),
 (n_copy_Copy_mark, ⟨b_copy_Copy_mark, [.tmp 4], 27⟩),
 (n_copy_Encode, ⟨b_copy_Encode, [.tmp 2, .tmp 3], 31⟩),
 (n_copy_Open, ⟨b_copy_Open, [.tmp 4, .tmp 5], 49⟩),
 (n_copy_Terms_record, ⟨b_copy_Terms_record, [.tmp 2], 25⟩),
 (n_index_Index_Add, ⟨b_index_Index_Add, [.tmp 4, .tmp 5], 83⟩),
 (n_index_Index_Get, ⟨b_index_Index_Get, [.tmp 4, .tmp 5], 22⟩),
 (n_index_Index_lay, ⟨b_index_Index_lay, [], 143⟩),
 (n_index_New, ⟨b_index_New, [.tmp 4, .tmp 5], 25⟩),
 (n_match_Form, ⟨b_match_Form, [.tmp 2], 39⟩),
 (n_merge_Merge, ⟨b_merge_Merge, [.tmp 4, .tmp 5, .tmp 6], 98⟩),
 (n_merge_lines_Len, ⟨b_merge_lines_Len, [.tmp 2], 5⟩),
 (n_meta_Decode, ⟨b_meta_Decode, [.cell 2 true 4, .tmp 3], 52⟩),
 (n_meta_New, ⟨b_meta_New, [.cell 6 true 2, .tmp 7], 72⟩),
 (n_query_list, ⟨b_query_list, [.cell 4 true 4], 14⟩),
 (n_query_reader_and, ⟨b_query_reader_and, [.cell 2 true 4], 43⟩),
 (n_query_reader_end, ⟨b_query_reader_end, [.tmp 4], 22⟩),
 (n_query_reader_is, ⟨b_query_reader_is, [.tmp 4], 16⟩),
 (n_query_reader_key, ⟨b_query_reader_key, [.tmp 4], 32⟩),
 (n_query_reader_not, ⟨b_query_reader_not, [.cell 2 true 4], 71⟩),
 (n_query_reader_or, ⟨b_query_reader_or, [.cell 2 true 4], 16⟩),
 (n_query_reader_skip, ⟨b_query_reader_skip, [], 31⟩),
 (n_query_reader_word, ⟨b_query_reader_word, [.cell 2 true 4], 87⟩),
 (n_ring_Hash, ⟨b_ring_Hash, [.tmp 2], 29⟩),
 (n_ring_Shard, ⟨b_ring_Shard, [.tmp 4, .tmp 5], 61⟩),
 (n_ring_Shard_1, ⟨b_ring_Shard_1, [.tmp 4], 22⟩),
 (n_seg_Build, ⟨b_seg_Build, [.tmp 2, .tmp 3], 85⟩),
 (n_seg_Open, ⟨b_seg_Open, [.tmp 2, .tmp 3], 121⟩),
 (n_seg_entry, ⟨b_seg_entry, [.tmp 2], 17⟩),
 (n_seg_four, ⟨b_seg_four, [.tmp 2], 15⟩),
 (n_seg_gather, ⟨b_seg_gather, [.tmp 2, .tmp 3], 56⟩),
 (n_seg_keys_string_int, ⟨b_seg_keys_string_int, [.tmp 2], 6⟩),
 (n_seg_reader_number, ⟨b_seg_reader_number, [.tmp 4], 42⟩),
 (n_seg_reader_text, ⟨b_seg_reader_text, [.tmp 4], 36⟩),
 (n_words_Terms, ⟨b_words_Terms, [.tmp 2], 61⟩),
 (n_words_Words, ⟨b_words_Words, [.tmp 2], 74⟩),
 (n_query_Parse, ⟨b_query_Parse, [.cell 2 true 4, .cell 3 false 1, .cell 4 false 1], 31⟩),
 (n_disk_Disk_Append, ⟨b_disk_Disk_Append, [.tmp 6], 11⟩),
 (n_disk_Disk_On, ⟨b_disk_Disk_On, [.tmp 2], 12⟩),
 (n_disk_Disk_Read, ⟨b_disk_Disk_Read, [.tmp 4, .tmp 5], 32⟩),
 (n_disk_Disk_Remove, ⟨b_disk_Disk_Remove, [.tmp 4], 9⟩),
 (n_disk_Disk_Sync, ⟨b_disk_Disk_Sync, [.tmp 4], 8⟩),
 (n_disk_Disk_Sync_1, ⟨b_disk_Disk_Sync_1, [], 10⟩),
 (n_disk_Disk_begin, ⟨b_disk_Disk_begin, [.tmp 2, .tmp 3], 39⟩),
 (n_disk_Disk_change, ⟨b_disk_Disk_change, [.tmp 6], 39⟩),
 (n_disk_Disk_grow, ⟨b_disk_Disk_grow, [.tmp 8], 87⟩),
 (n_disk_Disk_look, ⟨b_disk_Disk_look, [.tmp 4], 19⟩),
 (n_disk_Name, ⟨b_disk_Name, [.tmp 2], 53⟩),
 (n_disk_New, ⟨b_disk_New, [.tmp 2, .tmp 3], 14⟩),
 (n_l20_NodePatience, ⟨b_l20_NodePatience, [.tmp 4], 127⟩),
 (n_l20_alone, ⟨b_l20_alone, [.tmp 4], 26⟩),
 (n_l20_awake, ⟨b_l20_awake, [.tmp 0], 48⟩),
 (n_l20_config, ⟨b_l20_config, [.cell 4 true 6], 14⟩),
 (n_l20_result, ⟨b_l20_result, [.cell 4 true 5, .tmp 5], 24⟩),
 (n_pack_Frame, ⟨b_pack_Frame, [.tmp 2, .tmp 3], 25⟩),
 (n_pack_ReadFrame, ⟨b_pack_ReadFrame, [.tmp 4, .tmp 5, .tmp 6], 92⟩),
 (n_pack_ReadText, ⟨b_pack_ReadText, [.tmp 6, .tmp 7, .tmp 8], 52⟩),
 (n_pack_ReadUvarint, ⟨b_pack_ReadUvarint, [.tmp 4, .tmp 5, .tmp 6], 60⟩),
 (n_pack_Sum, ⟨b_pack_Sum, [.tmp 2], 30⟩),
 (n_pack_Text, ⟨b_pack_Text, [.tmp 2], 9⟩),
 (n_pack_Uvarint, ⟨b_pack_Uvarint, [.tmp 2], 19⟩),
 (n_pack_Zag, ⟨b_pack_Zag, [.tmp 2], 11⟩),
 (n_pack_Zig, ⟨b_pack_Zig, [.tmp 2], 10⟩),
 (n_pack_four, ⟨b_pack_four, [.tmp 2], 15⟩),
 (n_raft_Node_Entry, ⟨b_raft_Node_Entry, [.tmp 4, .tmp 5, .tmp 6], 41⟩),
 (n_raft_Node_Out, ⟨b_raft_Node_Out, [.tmp 2], 14⟩),
 (n_raft_Node_Sure, ⟨b_raft_Node_Sure, [.tmp 2], 9⟩),
 (n_raft_Node_Tick, ⟨b_raft_Node_Tick, [.tmp 4], 128⟩),
 (n_raft_Node_add, ⟨b_raft_Node_add, [.tmp 4], 39⟩),
 (n_raft_Node_advance, ⟨b_raft_Node_advance, [], 64⟩),
 (n_raft_Node_count, ⟨b_raft_Node_count, [.tmp 2], 86⟩),
 (n_raft_Node_hard, ⟨b_raft_Node_hard, [.tmp 2], 20⟩),
 (n_raft_Node_keep, ⟨b_raft_Node_keep, [.tmp 4], 37⟩),
 (n_raft_Node_last, ⟨b_raft_Node_last, [.tmp 4], 25⟩),
 (n_raft_Node_record, ⟨b_raft_Node_record, [.tmp 4], 34⟩),
 (n_raft_Node_rest, ⟨b_raft_Node_rest, [], 15⟩),
 (n_raft_Node_send, ⟨b_raft_Node_send, [], 28⟩),
 (n_raft_Node_tell, ⟨b_raft_Node_tell, [], 20⟩),
 (n_raft_Open, ⟨b_raft_Open, [.tmp 6, .tmp 7], 59⟩),
 (n_raft_message_encode, ⟨b_raft_message_encode, [.tmp 2], 58⟩),
 (n_wal_Log_Append, ⟨b_wal_Log_Append, [.tmp 4], 42⟩),
 (n_wal_Log_Len, ⟨b_wal_Log_Len, [.tmp 2], 10⟩),
 (n_wal_Log_Sync, ⟨b_wal_Log_Sync, [.tmp 2], 26⟩),
 (n_wal_Open, ⟨b_wal_Open, [.tmp 4, .tmp 5], 68⟩),
 (n_wal_Scan, ⟨b_wal_Scan, [.tmp 2, .tmp 3], 25⟩),
 (n_cmp_Less_int, ⟨b_cmp_Less_int, [.tmp 4], 17⟩),
 (n_cmp_Less_uint64, ⟨b_cmp_Less_uint64, [.tmp 4], 17⟩),
 (n_cmp_isNaN_int, ⟨b_cmp_isNaN_int, [.tmp 2], 6⟩),
 (n_cmp_isNaN_uint64, ⟨b_cmp_isNaN_uint64, [.tmp 2], 6⟩),
 (n_internal_strconv_FormatInt, ⟨b_internal_strconv_FormatInt, [.tmp 4], 54⟩),
 (n_internal_strconv_Itoa, ⟨b_internal_strconv_Itoa, [.tmp 2], 5⟩),
 (n_internal_strconv_small, ⟨b_internal_strconv_small, [.tmp 2], 15⟩),
 (n_internal_stringslite_HasPrefix, ⟨b_internal_stringslite_HasPrefix, [.tmp 4], 18⟩),
 (n_maps_Keys_map_string_int_string_int, ⟨b_maps_Keys_map_string_int_string_int, [.tmp 2], 4⟩),
 (n_math_bits_Len, ⟨b_math_bits_Len, [.tmp 2], 8⟩),
 (n_math_bits_Len64, ⟨b_math_bits_Len64, [.tmp 2], 25⟩),
 (n_slices_Clone_byte_byte, ⟨b_slices_Clone_byte_byte, [.tmp 2], 8⟩),
 (n_slices_Compact_string_string, ⟨b_slices_Compact_string_string, [.tmp 2], 61⟩),
 (n_slices_ContainsFunc_node_waiting_node_waiting, ⟨b_slices_ContainsFunc_node_waiting_node_waiting, [.tmp 4], 9⟩),
 (n_slices_Contains_int_int, ⟨b_slices_Contains_int_int, [.tmp 4], 9⟩),
 (n_slices_IndexFunc_node_waiting_node_waiting, ⟨b_slices_IndexFunc_node_waiting_node_waiting, [.tmp 4], 19⟩),
 (n_slices_Index_int_int, ⟨b_slices_Index_int_int, [.tmp 4], 19⟩),
 (n_slices_SortFunc_ring_point_ring_point, ⟨b_slices_SortFunc_ring_point_ring_point, [], 14⟩),
 (n_slices_Sort_int_int, ⟨b_slices_Sort_int_int, [], 11⟩),
 (n_slices_Sort_string_string, ⟨b_slices_Sort_string_string, [], 11⟩),
 (n_slices_Sort_uint64_uint64, ⟨b_slices_Sort_uint64_uint64, [], 11⟩),
 (n_slices_choosePivotCmpFunc_ring_point, ⟨b_slices_choosePivotCmpFunc_ring_point, [.tmp 8, .tmp 9], 63⟩),
 (n_slices_insertionSortCmpFunc_ring_point, ⟨b_slices_insertionSortCmpFunc_ring_point, [], 53⟩),
 (n_slices_insertionSortOrdered_int, ⟨b_slices_insertionSortOrdered_int, [], 49⟩),
 (n_slices_insertionSortOrdered_string, ⟨b_slices_insertionSortOrdered_string, [], 49⟩),
 (n_slices_insertionSortOrdered_uint64, ⟨b_slices_insertionSortOrdered_uint64, [], 49⟩),
 (n_slices_medianCmpFunc_ring_point, ⟨b_slices_medianCmpFunc_ring_point, [.tmp 12], 41⟩),
 (n_slices_order2CmpFunc_ring_point, ⟨b_slices_order2CmpFunc_ring_point, [.tmp 10, .tmp 11], 32⟩),
 (n_slices_partitionCmpFunc_ring_point, ⟨b_slices_partitionCmpFunc_ring_point, [.tmp 10, .tmp 11], 178⟩),
 (n_slices_pdqsortCmpFunc_ring_point, ⟨b_slices_pdqsortCmpFunc_ring_point, [], 148⟩),
 (n_slices_pdqsortOrdered_int, ⟨b_slices_pdqsortOrdered_int, [], 134⟩),
 (n_slices_pdqsortOrdered_string, ⟨b_slices_pdqsortOrdered_string, [], 134⟩),
 (n_slices_pdqsortOrdered_uint64, ⟨b_slices_pdqsortOrdered_uint64, [], 134⟩),
 (n_strconv_Itoa, ⟨b_strconv_Itoa, [.tmp 2], 5⟩),
 (n_strings_HasPrefix, ⟨b_strings_HasPrefix, [.tmp 4], 8⟩),
 (n_strings_IndexByte, ⟨b_strings_IndexByte, [.tmp 4], 8⟩)]
def tabT : Tr FnC := tabL.foldl (fun t q => t.put (some q.2) 40 q.1) .lf
theorem tabL_ok : ∀ q ∈ tabL, small q.1 = true ∧ FnOk Tryz.prog q.1 q.2 := by
 have h : ∀ {l : List (Nat × FnC)} {f : Nat} {c : FnC}, small f = true → FnOk Tryz.prog f c → (∀ q ∈ l, small q.1 = true ∧ FnOk Tryz.prog q.1 q.2) → ∀ q ∈ (f, c) :: l, small q.1 = true ∧ FnOk Tryz.prog q.1 q.2 := fun hs hc hl q hq => by
  rcases List.mem_cons.1 hq with rfl | hq
  ·exact ⟨hs, hc⟩
  ·exact hl q hq
 unfold tabL
 refine h rfl (FnOk.chk mixed k_node_Node_Done) ?_
 refine h rfl (FnOk.chk mixed k_node_Node_Holds) ?_
 refine h rfl (FnOk.chk mixed k_node_Node_Out) ?_
 refine h rfl (FnOk.chk mixed k_node_Node_Search) ?_
 refine h rfl (FnOk.chk mixed k_node_Node_Serves) ?_
 refine h rfl (FnOk.chk mixed k_node_Node_Tick) ?_
 refine h rfl (FnOk.chk mixed k_node_Node_Waits) ?_
 refine h rfl (FnOk.chk mixed k_node_Node_Write) ?_
 refine h rfl (FnOk.chk mixed k_node_Node_apply) ?_
 refine h rfl (FnOk.chk mixed k_node_Node_check) ?_
 refine h rfl (FnOk.chk mixed k_node_Node_end) ?_
 refine h rfl (FnOk.chk mixed k_node_Node_fill) ?_
 refine h rfl (FnOk.chk mixed k_node_Node_look) ?_
 refine h rfl (FnOk.chk mixed k_node_Node_page) ?_
 refine h rfl (FnOk.chk mixed k_node_Node_push) ?_
 refine h rfl (FnOk.chk mixed k_node_Node_seek) ?_
 refine h rfl (FnOk.chk mixed k_node_Node_send) ?_
 refine h rfl (FnOk.chk mixed k_node_Node_settle) ?_
 refine h rfl (FnOk.chk mixed k_node_Node_step) ?_
 refine h rfl (FnOk.chk mixed k_node_Node_sure) ?_
 refine h rfl (FnOk.chk mixed k_node_Node_tell) ?_
 refine h rfl (FnOk.chk mixed k_node_Node_tickShard) ?_
 refine h rfl (FnOk.chk mixed k_node_Node_tickWish) ?_
 refine h rfl (FnOk.chk mixed k_node_Node_write) ?_
 refine h rfl (FnOk.chk mixed k_node_Open) ?_
 refine h rfl (FnOk.chk mixed k_node_bit) ?_
 refine h rfl (FnOk.chk mixed k_node_message_encode) ?_
 refine h rfl (FnOk.chk mixed k_prim_New) ?_
 refine h rfl (FnOk.chk mixed k_prim_Prim_Needs) ?_
 refine h rfl (FnOk.chk mixed k_prim_Prim_Offer) ?_
 refine h rfl (FnOk.chk mixed k_prim_Prim_Peers) ?_
 refine h rfl (FnOk.chk mixed k_prim_Prim_Sure) ?_
 refine h rfl (FnOk.chk mixed k_prim_Prim_Table) ?_
 refine h rfl (FnOk.chk mixed k_prim_Prim_Term) ?_
 refine h rfl (FnOk.chk mixed k_copy_Copy_Append) ?_
 refine h rfl (FnOk.chk mixed k_copy_Copy_Len) ?_
 refine h rfl (FnOk.chk mixed k_copy_Copy_Ops) ?_
 refine h rfl (FnOk.chk mixed k_copy_Copy_Serve) ?_
 refine h rfl (FnOk.chk mixed k_copy_Copy_Terms) ?_
 refine h rfl (FnOk.chk mixed k_copy_Copy_mark) ?_
 refine h rfl (FnOk.chk mixed k_copy_Encode) ?_
 refine h rfl (FnOk.chk mixed k_copy_Open) ?_
 refine h rfl (FnOk.chk mixed k_copy_Terms_record) ?_
 refine h rfl (FnOk.chk mixed k_index_Index_Add) ?_
 refine h rfl (FnOk.chk mixed k_index_Index_Get) ?_
 refine h rfl (FnOk.chk mixed k_index_Index_lay) ?_
 refine h rfl (FnOk.chk mixed k_index_New) ?_
 refine h rfl (FnOk.chk mixed k_match_Form) ?_
 refine h rfl (FnOk.chk mixed k_merge_Merge) ?_
 refine h rfl (FnOk.chk mixed k_merge_lines_Len) ?_
 refine h rfl (FnOk.chk mixed k_meta_Decode) ?_
 refine h rfl (FnOk.chk mixed k_meta_New) ?_
 refine h rfl (FnOk.chk mixed k_query_list) ?_
 refine h rfl (FnOk.chk mixed k_query_reader_and) ?_
 refine h rfl (FnOk.chk mixed k_query_reader_end) ?_
 refine h rfl (FnOk.chk mixed k_query_reader_is) ?_
 refine h rfl (FnOk.chk mixed k_query_reader_key) ?_
 refine h rfl (FnOk.chk mixed k_query_reader_not) ?_
 refine h rfl (FnOk.chk mixed k_query_reader_or) ?_
 refine h rfl (FnOk.chk mixed k_query_reader_skip) ?_
 refine h rfl (FnOk.chk mixed k_query_reader_word) ?_
 refine h rfl (FnOk.chk mixed k_ring_Hash) ?_
 refine h rfl (FnOk.chk mixed k_ring_Shard) ?_
 refine h rfl (FnOk.chk mixed k_ring_Shard_1) ?_
 refine h rfl (FnOk.chk mixed k_seg_Build) ?_
 refine h rfl (FnOk.chk mixed k_seg_Open) ?_
 refine h rfl (FnOk.chk mixed k_seg_entry) ?_
 refine h rfl (FnOk.chk mixed k_seg_four) ?_
 refine h rfl (FnOk.chk mixed k_seg_gather) ?_
 refine h rfl (FnOk.chk mixed k_seg_keys_string_int) ?_
 refine h rfl (FnOk.chk mixed k_seg_reader_number) ?_
 refine h rfl (FnOk.chk mixed k_seg_reader_text) ?_
 refine h rfl (FnOk.chk mixed k_words_Terms) ?_
 refine h rfl (FnOk.chk mixed k_words_Words) ?_
 refine h rfl (FnOk.dfr mixed (cf := 68) (by kernel_rfl) k_query_Parse) ?_
 refine h rfl (FnOk.chk mixed k_disk_Disk_Append) ?_
 refine h rfl (FnOk.chk mixed k_disk_Disk_On) ?_
 refine h rfl (FnOk.chk mixed k_disk_Disk_Read) ?_
 refine h rfl (FnOk.chk mixed k_disk_Disk_Remove) ?_
 refine h rfl (FnOk.chk mixed k_disk_Disk_Sync) ?_
 refine h rfl (FnOk.chk mixed k_disk_Disk_Sync_1) ?_
 refine h rfl (FnOk.chk mixed k_disk_Disk_begin) ?_
 refine h rfl (FnOk.chk mixed k_disk_Disk_change) ?_
 refine h rfl (FnOk.chk mixed k_disk_Disk_grow) ?_
 refine h rfl (FnOk.chk mixed k_disk_Disk_look) ?_
 refine h rfl (FnOk.chk mixed k_disk_Name) ?_
 refine h rfl (FnOk.chk mixed k_disk_New) ?_
 refine h rfl (FnOk.chk mixed k_l20_NodePatience) ?_
 refine h rfl (FnOk.chk mixed k_l20_alone) ?_
 refine h rfl (FnOk.chk mixed k_l20_awake) ?_
 refine h rfl (FnOk.chk mixed k_l20_config) ?_
 refine h rfl (FnOk.chk mixed k_l20_result) ?_
 refine h rfl (FnOk.chk mixed k_pack_Frame) ?_
 refine h rfl (FnOk.chk mixed k_pack_ReadFrame) ?_
 refine h rfl (FnOk.chk mixed k_pack_ReadText) ?_
 refine h rfl (FnOk.chk mixed k_pack_ReadUvarint) ?_
 refine h rfl (FnOk.chk mixed k_pack_Sum) ?_
 refine h rfl (FnOk.chk mixed k_pack_Text) ?_
 refine h rfl (FnOk.chk mixed k_pack_Uvarint) ?_
 refine h rfl (FnOk.chk mixed k_pack_Zag) ?_
 refine h rfl (FnOk.chk mixed k_pack_Zig) ?_
 refine h rfl (FnOk.chk mixed k_pack_four) ?_
 refine h rfl (FnOk.chk mixed k_raft_Node_Entry) ?_
 refine h rfl (FnOk.chk mixed k_raft_Node_Out) ?_
 refine h rfl (FnOk.chk mixed k_raft_Node_Sure) ?_
 refine h rfl (FnOk.chk mixed k_raft_Node_Tick) ?_
 refine h rfl (FnOk.chk mixed k_raft_Node_add) ?_
 refine h rfl (FnOk.chk mixed k_raft_Node_advance) ?_
 refine h rfl (FnOk.chk mixed k_raft_Node_count) ?_
 refine h rfl (FnOk.chk mixed k_raft_Node_hard) ?_
 refine h rfl (FnOk.chk mixed k_raft_Node_keep) ?_
 refine h rfl (FnOk.chk mixed k_raft_Node_last) ?_
 refine h rfl (FnOk.chk mixed k_raft_Node_record) ?_
 refine h rfl (FnOk.chk mixed k_raft_Node_rest) ?_
 refine h rfl (FnOk.chk mixed k_raft_Node_send) ?_
 refine h rfl (FnOk.chk mixed k_raft_Node_tell) ?_
 refine h rfl (FnOk.chk mixed k_raft_Open) ?_
 refine h rfl (FnOk.chk mixed k_raft_message_encode) ?_
 refine h rfl (FnOk.chk mixed k_wal_Log_Append) ?_
 refine h rfl (FnOk.chk mixed k_wal_Log_Len) ?_
 refine h rfl (FnOk.chk mixed k_wal_Log_Sync) ?_
 refine h rfl (FnOk.chk mixed k_wal_Open) ?_
 refine h rfl (FnOk.chk mixed k_wal_Scan) ?_
 refine h rfl (FnOk.chk mixed k_cmp_Less_int) ?_
 refine h rfl (FnOk.chk mixed k_cmp_Less_uint64) ?_
 refine h rfl (FnOk.chk mixed k_cmp_isNaN_int) ?_
 refine h rfl (FnOk.chk mixed k_cmp_isNaN_uint64) ?_
 refine h rfl (FnOk.chk mixed k_internal_strconv_FormatInt) ?_
 refine h rfl (FnOk.chk mixed k_internal_strconv_Itoa) ?_
 refine h rfl (FnOk.chk mixed k_internal_strconv_small) ?_
 refine h rfl (FnOk.chk mixed k_internal_stringslite_HasPrefix) ?_
 refine h rfl (FnOk.chk mixed k_maps_Keys_map_string_int_string_int) ?_
 refine h rfl (FnOk.chk mixed k_math_bits_Len) ?_
 refine h rfl (FnOk.chk mixed k_math_bits_Len64) ?_
 refine h rfl (FnOk.chk mixed k_slices_Clone_byte_byte) ?_
 refine h rfl (FnOk.chk mixed k_slices_Compact_string_string) ?_
 refine h rfl (FnOk.chk mixed k_slices_ContainsFunc_node_waiting_node_waiting) ?_
 refine h rfl (FnOk.chk mixed k_slices_Contains_int_int) ?_
 refine h rfl (FnOk.chk mixed k_slices_IndexFunc_node_waiting_node_waiting) ?_
 refine h rfl (FnOk.chk mixed k_slices_Index_int_int) ?_
 refine h rfl (FnOk.chk mixed k_slices_SortFunc_ring_point_ring_point) ?_
 refine h rfl (FnOk.chk mixed k_slices_Sort_int_int) ?_
 refine h rfl (FnOk.chk mixed k_slices_Sort_string_string) ?_
 refine h rfl (FnOk.chk mixed k_slices_Sort_uint64_uint64) ?_
 refine h rfl (FnOk.chk mixed k_slices_choosePivotCmpFunc_ring_point) ?_
 refine h rfl (FnOk.chk mixed k_slices_insertionSortCmpFunc_ring_point) ?_
 refine h rfl (FnOk.chk mixed k_slices_insertionSortOrdered_int) ?_
 refine h rfl (FnOk.chk mixed k_slices_insertionSortOrdered_string) ?_
 refine h rfl (FnOk.chk mixed k_slices_insertionSortOrdered_uint64) ?_
 refine h rfl (FnOk.chk mixed k_slices_medianCmpFunc_ring_point) ?_
 refine h rfl (FnOk.chk mixed k_slices_order2CmpFunc_ring_point) ?_
 refine h rfl (FnOk.chk mixed k_slices_partitionCmpFunc_ring_point) ?_
 refine h rfl (FnOk.chk mixed k_slices_pdqsortCmpFunc_ring_point) ?_
 refine h rfl (FnOk.chk mixed k_slices_pdqsortOrdered_int) ?_
 refine h rfl (FnOk.chk mixed k_slices_pdqsortOrdered_string) ?_
 refine h rfl (FnOk.chk mixed k_slices_pdqsortOrdered_uint64) ?_
 refine h rfl (FnOk.chk mixed k_strconv_Itoa) ?_
 refine h rfl (FnOk.chk mixed k_strings_HasPrefix) ?_
 refine h rfl (FnOk.chk mixed k_strings_IndexByte) ?_
 intro q hq; cases hq
theorem tabT_ok : ∀ f fc, tabT.get f = some fc → FnOk Tryz.prog f fc := by
 have key : ∀ (l : List (Nat × FnC)) (t : Tr FnC), (∀ q ∈ l, small q.1 = true ∧ FnOk Tryz.prog q.1 q.2) → (∀ f fc, t.get f = some fc → FnOk Tryz.prog f fc) → ∀ f fc, (l.foldl (fun t q => t.put (some q.2) 40 q.1) t).get f = some fc → FnOk Tryz.prog f fc := by
  intro l
  induction l with
  | nil => intro t _ h; exact h
  | cons q l ih =>
   intro t hq ht
   rw [List.foldl_cons]
   refine ih _ (fun x hx => hq x (List.mem_cons_of_mem _ hx)) fun f fc hf => ?_
   obtain ⟨h1, h2⟩ := hq q (by simp)
   rw [Tr.get_put (some q.2) 40 t q.1 f (small_lt h1)] at hf
   split at hf
   ·rename_i e; injection hf with hf; rw [e, ← hf]; exact h2
   ·exact ht f fc hf
 exact key tabL .lf tabL_ok fun f fc h => by cases h
end Go.VM
namespace Go.Proofs
open Go.Shelf
def Tryz.keysD_ren : Go.Shelf.Ren := ⟨fun | 7 => 296 | 10 => 311 | n => n, fun | 23 => 382 | 26 => 9 | 3 => 43 | 28 => 403 | 0 => 0 | 27 => 402 | 33 => 188 | 4 => 4 | n => n, fun | n => n⟩
theorem Tryz.keysD : Go.Proofs.SlLaysZ.n7 Tryz.prog Tryz.keysD_ren := {
 mixed := by kernel_rfl
 f7 := ⟨Tryz.f296.name, by decide, Tryz.func296.trans (congrArg some (by kernel_rfl))⟩
 f10 := ⟨Tryz.f311.name, by decide, Tryz.func311.trans (congrArg some (by kernel_rfl))⟩
 t0 := Tryz.underlying0
 a0 := Tryz.isAgg0
 z0 := Tryz.sizeOf0
 v0 := Tryz.zeroValue0
 t4 := Tryz.underlying4
 a4 := Tryz.isAgg4
 z4 := Tryz.sizeOf4
 v4 := Tryz.zeroValue4
 t23 := Tryz.underlying382
 a23 := Tryz.isAgg382
 z23 := Tryz.sizeOf382
 v23 := Tryz.zeroValue382
 t26 := Tryz.underlying9
 a26 := Tryz.isAgg9
 z26 := Tryz.sizeOf9
 v26 := Tryz.zeroValue9
 t27 := Tryz.underlying402
 a27 := Tryz.isAgg402
 z27 := Tryz.sizeOf402
 v27 := Tryz.zeroValue402
 t28 := Tryz.underlying403
 a28 := Tryz.isAgg403
 z28 := Tryz.sizeOf403
 v28 := Tryz.zeroValue403
 t33 := Tryz.underlying188
 a33 := Tryz.isAgg188
 z33 := Tryz.sizeOf188
 v33 := Tryz.zeroValue188 }
def Tryz.sortedD_ren : Go.Shelf.Ren := ⟨fun | 6 => 295 | 8 => 310 | 9 => 293 | 11 => 330 | 13 => 85 | 12 => 309 | 23 => 140 | 24 => 141 | 14 => 322 | 15 => 323 | 16 => 324 | 17 => 325 | 18 => 326 | 19 => 327 | 20 => 312 | 21 => 328 | 22 => 329 | 25 => 336 | 26 => 206 | 27 => 207 | 28 => 337 | 29 => 338 | 30 => 288 | 31 => 339 | n => n, fun | 26 => 9 | 28 => 403 | 24 => 327 | 0 => 0 | 3 => 3 | 37 => 184 | 48 => 243 | 50 => 41 | 4 => 4 | 40 => 236 | 39 => 235 | 45 => 206 | 5 => 5 | 9 => 9 | 51 => 305 | 55 => 308 | 57 => 356 | 58 => 357 | 33 => 188 | n => n, fun | n => n⟩
theorem Tryz.sortedD : Go.Proofs.SlLaysZ.n6 Tryz.prog Tryz.sortedD_ren := {
 mixed := by kernel_rfl
 f6 := ⟨Tryz.f295.name, by decide, Tryz.func295.trans (congrArg some (by kernel_rfl))⟩
 f8 := ⟨Tryz.f310.name, by decide, Tryz.func310.trans (congrArg some (by kernel_rfl))⟩
 f11 := ⟨Tryz.f330.name, by decide, Tryz.func330.trans (congrArg some (by kernel_rfl))⟩
 t0 := Tryz.underlying0
 a0 := Tryz.isAgg0
 z0 := Tryz.sizeOf0
 v0 := Tryz.zeroValue0
 t24 := Tryz.underlying327
 a24 := Tryz.isAgg327
 z24 := Tryz.sizeOf327
 v24 := Tryz.zeroValue327
 t26 := Tryz.underlying9
 a26 := Tryz.isAgg9
 z26 := Tryz.sizeOf9
 v26 := Tryz.zeroValue9
 t28 := Tryz.underlying403
 a28 := Tryz.isAgg403
 z28 := Tryz.sizeOf403
 v28 := Tryz.zeroValue403
 i26 := by kernel_rfl }
def Tryz.sortD_ren : Go.Shelf.Ren := ⟨fun | 6 => 293 | 8 => 85 | 9 => 309 | 19 => 140 | 20 => 141 | 21 => 322 | 22 => 323 | 23 => 324 | 24 => 325 | 25 => 326 | 26 => 327 | 27 => 312 | 28 => 328 | 29 => 329 | 36 => 336 | 31 => 206 | 32 => 207 | 37 => 337 | 38 => 338 | 39 => 288 | 41 => 339 | n => n, fun | 27 => 327 | 29 => 9 | 3 => 3 | 32 => 184 | 26 => 327 | 0 => 0 | 44 => 243 | 46 => 41 | 4 => 4 | 36 => 236 | 35 => 235 | 41 => 206 | 5 => 5 | 9 => 9 | 53 => 305 | 57 => 308 | 63 => 356 | 64 => 357 | n => n, fun | n => n⟩
theorem Tryz.sortD : Go.Proofs.SlLaysM.n6 Tryz.prog Tryz.sortD_ren := {
 mixed := by kernel_rfl
 f6 := ⟨Tryz.f293.name, by decide, Tryz.func293.trans (congrArg some (by kernel_rfl))⟩
 f8 := Tryz.func85.trans (congrArg some (by kernel_rfl))
 f9 := ⟨Tryz.f309.name, by decide, Tryz.func309.trans (congrArg some (by kernel_rfl))⟩
 f19 := Tryz.func140.trans (congrArg some (by kernel_rfl))
 f20 := Tryz.func141.trans (congrArg some (by kernel_rfl))
 f21 := ⟨Tryz.f322.name, by decide, Tryz.func322.trans (congrArg some (by kernel_rfl))⟩
 f22 := ⟨Tryz.f323.name, by decide, Tryz.func323.trans (congrArg some (by kernel_rfl))⟩
 f23 := ⟨Tryz.f324.name, by decide, Tryz.func324.trans (congrArg some (by kernel_rfl))⟩
 f24 := ⟨Tryz.f325.name, by decide, Tryz.func325.trans (congrArg some (by kernel_rfl))⟩
 f25 := ⟨Tryz.f326.name, by decide, Tryz.func326.trans (congrArg some (by kernel_rfl))⟩
 f26 := ⟨Tryz.f327.name, by decide, Tryz.func327.trans (congrArg some (by kernel_rfl))⟩
 f27 := ⟨Tryz.f312.name, by decide, Tryz.func312.trans (congrArg some (by kernel_rfl))⟩
 f28 := ⟨Tryz.f328.name, by decide, Tryz.func328.trans (congrArg some (by kernel_rfl))⟩
 f29 := ⟨Tryz.f329.name, by decide, Tryz.func329.trans (congrArg some (by kernel_rfl))⟩
 f31 := Tryz.func206.trans (congrArg some (by kernel_rfl))
 f32 := Tryz.func207.trans (congrArg some (by kernel_rfl))
 f36 := ⟨Tryz.f336.name, by decide, Tryz.func336.trans (congrArg some (by kernel_rfl))⟩
 f37 := ⟨Tryz.f337.name, by decide, Tryz.func337.trans (congrArg some (by kernel_rfl))⟩
 f38 := ⟨Tryz.f338.name, by decide, Tryz.func338.trans (congrArg some (by kernel_rfl))⟩
 f39 := ⟨Tryz.f288.name, by decide, Tryz.func288.trans (congrArg some (by kernel_rfl))⟩
 f41 := ⟨Tryz.f339.name, by decide, Tryz.func339.trans (congrArg some (by kernel_rfl))⟩
 t0 := Tryz.underlying0
 a0 := Tryz.isAgg0
 z0 := Tryz.sizeOf0
 v0 := Tryz.zeroValue0
 t3 := Tryz.underlying3
 a3 := Tryz.isAgg3
 z3 := Tryz.sizeOf3
 v3 := Tryz.zeroValue3
 t4 := Tryz.underlying4
 a4 := Tryz.isAgg4
 z4 := Tryz.sizeOf4
 v4 := Tryz.zeroValue4
 t5 := Tryz.underlying5
 a5 := Tryz.isAgg5
 z5 := Tryz.sizeOf5
 v5 := Tryz.zeroValue5
 t9 := Tryz.underlying9
 a9 := Tryz.isAgg9
 z9 := Tryz.sizeOf9
 v9 := Tryz.zeroValue9
 t26 := Tryz.underlying327
 a26 := Tryz.isAgg327
 z26 := Tryz.sizeOf327
 v26 := Tryz.zeroValue327
 t27 := Tryz.underlying327
 a27 := Tryz.isAgg327
 z27 := Tryz.sizeOf327
 v27 := Tryz.zeroValue327
 t29 := Tryz.underlying9
 a29 := Tryz.isAgg9
 z29 := Tryz.sizeOf9
 v29 := Tryz.zeroValue9
 t32 := Tryz.underlying184
 a32 := Tryz.isAgg184
 z32 := Tryz.sizeOf184
 v32 := Tryz.zeroValue184
 t35 := Tryz.underlying235
 a35 := Tryz.isAgg235
 z35 := Tryz.sizeOf235
 v35 := Tryz.zeroValue235
 t36 := Tryz.underlying236
 a36 := Tryz.isAgg236
 z36 := Tryz.sizeOf236
 v36 := Tryz.zeroValue236
 t41 := Tryz.underlying206
 a41 := Tryz.isAgg206
 z41 := Tryz.sizeOf206
 v41 := Tryz.zeroValue206
 t44 := Tryz.underlying243
 a44 := Tryz.isAgg243
 z44 := Tryz.sizeOf243
 v44 := Tryz.zeroValue243
 t46 := Tryz.underlying41
 a46 := Tryz.isAgg41
 z46 := Tryz.sizeOf41
 v46 := Tryz.zeroValue41
 t53 := Tryz.underlying305
 a53 := Tryz.isAgg305
 z53 := Tryz.sizeOf305
 v53 := Tryz.zeroValue305
 t57 := Tryz.underlying308
 a57 := Tryz.isAgg308
 z57 := Tryz.sizeOf308
 v57 := Tryz.zeroValue308
 t63 := Tryz.underlying356
 a63 := Tryz.isAgg356
 z63 := Tryz.sizeOf356
 v63 := Tryz.zeroValue356
 t64 := Tryz.underlying357
 a64 := Tryz.isAgg357
 z64 := Tryz.sizeOf357
 v64 := Tryz.zeroValue357 }
def Tryz.sortI_ren : Go.Shelf.Ren := ⟨fun | 5 => 44 | 8 => 85 | 7 => 88 | 19 => 140 | 20 => 141 | 10 => 144 | 11 => 145 | 12 => 146 | 13 => 147 | 14 => 148 | 15 => 149 | 16 => 150 | 17 => 151 | 18 => 152 | 30 => 219 | 31 => 206 | 32 => 207 | 33 => 220 | 34 => 221 | 35 => 222 | 40 => 261 | n => n, fun | 23 => 43 | 25 => 3 | 3 => 3 | 32 => 184 | 22 => 43 | 0 => 0 | 44 => 243 | 46 => 41 | 4 => 4 | 36 => 236 | 35 => 235 | 41 => 206 | 5 => 5 | 9 => 9 | 53 => 305 | 57 => 308 | 63 => 356 | 64 => 357 | n => n, fun | n => n⟩
theorem Tryz.sortI : Go.Proofs.SlLaysM.n5 Tryz.prog Tryz.sortI_ren := {
 mixed := by kernel_rfl
 f5 := ⟨Tryz.f44.name, by decide, Tryz.func44.trans (congrArg some (by kernel_rfl))⟩
 f7 := ⟨Tryz.f88.name, by decide, Tryz.func88.trans (congrArg some (by kernel_rfl))⟩
 f8 := Tryz.func85.trans (congrArg some (by kernel_rfl))
 f10 := ⟨Tryz.f144.name, by decide, Tryz.func144.trans (congrArg some (by kernel_rfl))⟩
 f11 := ⟨Tryz.f145.name, by decide, Tryz.func145.trans (congrArg some (by kernel_rfl))⟩
 f12 := ⟨Tryz.f146.name, by decide, Tryz.func146.trans (congrArg some (by kernel_rfl))⟩
 f13 := ⟨Tryz.f147.name, by decide, Tryz.func147.trans (congrArg some (by kernel_rfl))⟩
 f14 := ⟨Tryz.f148.name, by decide, Tryz.func148.trans (congrArg some (by kernel_rfl))⟩
 f15 := ⟨Tryz.f149.name, by decide, Tryz.func149.trans (congrArg some (by kernel_rfl))⟩
 f16 := ⟨Tryz.f150.name, by decide, Tryz.func150.trans (congrArg some (by kernel_rfl))⟩
 f17 := ⟨Tryz.f151.name, by decide, Tryz.func151.trans (congrArg some (by kernel_rfl))⟩
 f18 := ⟨Tryz.f152.name, by decide, Tryz.func152.trans (congrArg some (by kernel_rfl))⟩
 f19 := Tryz.func140.trans (congrArg some (by kernel_rfl))
 f20 := Tryz.func141.trans (congrArg some (by kernel_rfl))
 f30 := ⟨Tryz.f219.name, by decide, Tryz.func219.trans (congrArg some (by kernel_rfl))⟩
 f31 := Tryz.func206.trans (congrArg some (by kernel_rfl))
 f32 := Tryz.func207.trans (congrArg some (by kernel_rfl))
 f33 := ⟨Tryz.f220.name, by decide, Tryz.func220.trans (congrArg some (by kernel_rfl))⟩
 f34 := ⟨Tryz.f221.name, by decide, Tryz.func221.trans (congrArg some (by kernel_rfl))⟩
 f35 := ⟨Tryz.f222.name, by decide, Tryz.func222.trans (congrArg some (by kernel_rfl))⟩
 f40 := ⟨Tryz.f261.name, by decide, Tryz.func261.trans (congrArg some (by kernel_rfl))⟩
 t0 := Tryz.underlying0
 a0 := Tryz.isAgg0
 z0 := Tryz.sizeOf0
 v0 := Tryz.zeroValue0
 t3 := Tryz.underlying3
 a3 := Tryz.isAgg3
 z3 := Tryz.sizeOf3
 v3 := Tryz.zeroValue3
 t4 := Tryz.underlying4
 a4 := Tryz.isAgg4
 z4 := Tryz.sizeOf4
 v4 := Tryz.zeroValue4
 t5 := Tryz.underlying5
 a5 := Tryz.isAgg5
 z5 := Tryz.sizeOf5
 v5 := Tryz.zeroValue5
 t9 := Tryz.underlying9
 a9 := Tryz.isAgg9
 z9 := Tryz.sizeOf9
 v9 := Tryz.zeroValue9
 t22 := Tryz.underlying43
 a22 := Tryz.isAgg43
 z22 := Tryz.sizeOf43
 v22 := Tryz.zeroValue43
 t23 := Tryz.underlying43
 a23 := Tryz.isAgg43
 z23 := Tryz.sizeOf43
 v23 := Tryz.zeroValue43
 t25 := Tryz.underlying3
 a25 := Tryz.isAgg3
 z25 := Tryz.sizeOf3
 v25 := Tryz.zeroValue3
 t32 := Tryz.underlying184
 a32 := Tryz.isAgg184
 z32 := Tryz.sizeOf184
 v32 := Tryz.zeroValue184
 t35 := Tryz.underlying235
 a35 := Tryz.isAgg235
 z35 := Tryz.sizeOf235
 v35 := Tryz.zeroValue235
 t36 := Tryz.underlying236
 a36 := Tryz.isAgg236
 z36 := Tryz.sizeOf236
 v36 := Tryz.zeroValue236
 t41 := Tryz.underlying206
 a41 := Tryz.isAgg206
 z41 := Tryz.sizeOf206
 v41 := Tryz.zeroValue206
 t44 := Tryz.underlying243
 a44 := Tryz.isAgg243
 z44 := Tryz.sizeOf243
 v44 := Tryz.zeroValue243
 t46 := Tryz.underlying41
 a46 := Tryz.isAgg41
 z46 := Tryz.sizeOf41
 v46 := Tryz.zeroValue41
 t53 := Tryz.underlying305
 a53 := Tryz.isAgg305
 z53 := Tryz.sizeOf305
 v53 := Tryz.zeroValue305
 t57 := Tryz.underlying308
 a57 := Tryz.isAgg308
 z57 := Tryz.sizeOf308
 v57 := Tryz.zeroValue308
 t63 := Tryz.underlying356
 a63 := Tryz.isAgg356
 z63 := Tryz.sizeOf356
 v63 := Tryz.zeroValue356
 t64 := Tryz.underlying357
 a64 := Tryz.isAgg357
 z64 := Tryz.sizeOf357
 v64 := Tryz.zeroValue357 }
end Go.Proofs
namespace Go.VM
open Go Go.RowKit Go.Proofs Go.Maps Go.Sort Go.Shelf
theorem insert_permK {H : Type} (x : Lit × DataW H) : ∀ l, (DataW.insert x l).Perm (x :: l)
 | [] => List.Perm.refl _
 | y :: r => by
  unfold DataW.insert
  split
  ·exact List.Perm.refl _
  ·exact ((insert_permK x r).cons y).trans (List.Perm.swap x y r)
theorem foldr_insert_permK {H : Type} : ∀ l : List (Lit × DataW H), (l.foldr DataW.insert []).Perm l
 | [] => List.Perm.refl _
 | x :: r => (insert_permK x _).trans ((foldr_insert_permK r).cons x)
def G.grownK (g : G) (w : World) : G := { g with nb := w.heap.size, bs := fun b => if b < g.nb then g.bs b else match w.heap[b]? with | some (.cells us _ _) => us.size | _ => 0 }
theorem le_grownK {w0 w w' : World} {g : G} {S : St} (h : RelW w0 g S w) (hB : Below w.heap.size w w') : g.le (g.grownK w') :=
 ⟨fun _ _ _ h => h, Nat.le_refl _, fun _ _ => rfl, by rw [h.nb]; exact hB.size, fun b hb => by simp only [G.grownK]; rw [if_pos hb]⟩
theorem RelW.grownK {w0 w w' : World} {g : G} {S : St} (h : RelW w0 g S w) (hB : Below w.heap.size w w') : RelW w0 (g.grownK w') S w' := by
 have hle := le_grownK h hB
 refine ⟨h.below.trans (hB.mono h.below.size), rfl, h.n, fun b p u hu => ?_, fun i x hx => ?_, h.sep⟩
 ·have hlt := h.iceLt hu
  rw [← h.ice b p u hu]
  exact World.cell?_of_block (hB.block b hlt)
 ·obtain ⟨h1, h2, o, h3, h4⟩ := h.hp i x hx
  refine ⟨h1, h2, o, ?_, h4.mono hle (by rw [h.nb]; exact h.lt hx) (fun _ => rfl)⟩
  show w'.heap[(g.loc i).1]? = _
  rw [hB.block _ (h.lt hx)]; exact h3
theorem RelW.stringsK {w0 w w' : World} {g : G} {S : St} (h : RelW w0 g S w) (hB : Below w.heap.size w w') {e : TypeId} {v : Value} {ss : List (List UInt8)} (hv : w'.ownsRow w.heap.size e 1 v ss.length (ss.map encStr)) (hn : v = .slice none 0 0 ↔ ss = []) :
  ∃ g', g.le g' ∧ RelW w0 g' S w' ∧ RelV g' (.sl (ss.map fun s => .str (mkS s)) ss.length 1 (if ss = [] then .nil else .no)) v := by
 have h1 := h.grownK hB
 have l1 := le_grownK h hB
 by_cases he : ss = []
 ·subst he
  obtain rfl := hn.2 rfl
  exact ⟨_, l1, h1, by rw [if_pos rfl]; exact ⟨by simp, .inl ⟨rfl, rfl, rfl, rfl⟩⟩⟩
 ·obtain ⟨_, hv⟩ := hv
  rcases hv with ⟨hv, _⟩ | ⟨gb, cap, cur, rfl, hg, hb, hc, _, _, ht⟩
  ·exact absurd (hn.1 hv) he
  ·have hxs : ∀ i u, (ss.map encStr)[i]? = some u → w'.cell? ⟨gb, i, none⟩ = some u := fun i u hu => by
    rw [cell_of_row _ _ _ _ _ _ hb]
    rw [← ht, List.getElem?_take] at hu
    split at hu
    ·simpa using hu
    ·cases hu
   have hold : ∀ i v, (g.grownK w').ice gb i = some v → (ss.map encStr)[i]? = some v := fun i v hi => by
    have := h.iceLt (b := gb) (p := i) (u := v) hi
    omega
   refine ⟨(g.grownK w').ices gb fun i => (ss.map encStr)[i]?, l1.trans (le_ices _ _ _ hold), h1.ices (fun i y hy => ?_) hold h1.below rfl (fun _ _ _ => rfl) (fun i v hi => hxs i v hi), ?_⟩
   ·have := h.lt hy
    show (g.loc i).1 ≠ gb
    omega
   ·rw [if_neg he]
    refine ⟨by simp, .inr (.inl ⟨(by intro hh; cases hh), gb, 0, cap, ss.map encStr, rfl, hc, ?_, ?_, fun j v hj => ?_, fun hh => (by cases hh), fun k hk => (by cases hk)⟩)⟩
    ·refine RelL_iff.2 ⟨by simp, fun j c u hc hu => ?_⟩
     simp only [List.getElem?_map, Option.map_eq_some_iff] at hc hu
     obtain ⟨s, hs, rfl⟩ := hc
     obtain ⟨s', hs', rfl⟩ := hu
     rw [hs] at hs'
     injection hs' with hs'
     subst hs'
     rfl
    ·intro u hu
     simp only [List.mem_map] at hu
     obtain ⟨s, _, rfl⟩ := hu
     rfl
    ·show (if gb = gb then _ else _) = _
     rw [if_pos rfl, Nat.zero_add]; exact hj
structure StrMapK (es : List (V × V × Nat)) (c : Nat) (ks : List (List UInt8)) : Prop where
 keys : es.map (·.1) = ks.map fun k => V.str (mkS k)
 nodup : ks.Nodup
 short : ∀ k ∈ ks, k.length ≤ maxLen
 born : (es.map (·.2.2)).Nodup
 clock : ∀ e ∈ es, e.2.2 < c
def sortSK (ks : List (List UInt8)) : List (List UInt8) := ks.mergeSort leB
theorem RelW.fixedK {w0 w : World} {g : G} {S : St} (h : RelW w0 g S w) {us : List Value} {cs : List V} {ty : TypeId} (hr : RelL g cs us) :
  ∃ g', g.le g' ∧ RelW w0 g' (S.add (.fix cs)) (w.alloc (.cells us.toArray ty)) ∧ g'.loc S.n = (w.heap.size, 0) ∧ S.n < g'.n := by
 have l1 := le_block h us.toArray 0
 have h1 := h.block us.toArray ty (0, 0) 0
 have hlt : ∀ i y, S.hp i = some y → ((g.block us.toArray 0).loc i).1 ≠ w.heap.size := fun i y hy => by
  have := h.lt hy
  show (g.loc i).1 ≠ _
  omega
 refine ⟨(g.block us.toArray 0).obj w.heap.size 0, l1.trans (le_obj _ _ _), h1.obj (o := .cells us.toArray ty (0, 0)) ?_ h.below.size hlt ⟨rfl, us.toArray, ty, (0, 0), us, rfl, RelL_mono (l1.trans (le_obj _ _ _)) _ _ hr, fun j v hj => by simpa using hj⟩, ?_, ?_⟩
 ·exact heap_alloc_new w _
 ·simp [G.obj, G.block, h.n]
 ·simp [G.obj, G.block, h.n]
abbrev n_keysK : Nat := 296
abbrev n_keysItK : Nat := 311
abbrev n_sortedK : Nat := 295
theorem mapsKeys_runsK {w0 : World} {S : St} {Q : AEnd → St → Prop} {r : Nat} (hQ : Q (.ret (.func n_keysItK [] [.ptr (some (S.n, 0))])) (S.add (.fix [.map (some r)]))) : RSim Tryz.prog w0 n_keysK [.map (some r)] S Q := by
 refine ⟨⟨_, Tryz.func296, by kernel_rfl, by kernel_rfl⟩, fun g w us hW hr => ?_⟩
 obtain ⟨u, us', rfl, h1, h2⟩ := hr
 have : us' = [] := h2
 subst this
 obtain ⟨hrn, rfl⟩ : r < g.n ∧ u = .map (some (g.loc r).1) := h1
 have c := callsIn_wide.1 (AnyZ.keys_in Tryz.keysD Fence.wide 5 trivial rfl (some (g.loc r).1) w)
 refine Calls.mono c fun e w' ⟨he, hw⟩ => ?_
 subst he; subst hw
 obtain ⟨g', a1, a2, a3, a4⟩ := hW.fixedK (us := [.map (some (g.loc r).1)]) (cs := [.map (some r)]) (ty := 382) ⟨_, _, rfl, ⟨hrn, rfl⟩, rfl⟩
 refine ⟨g', _, .ret (.func n_keysItK [] [.ptr (some (S.n, 0))]), a1, a2, ?_, hQ⟩
 refine ⟨[], [.pointer (some ⟨w.heap.size, 0, none⟩)], rfl, rfl, _, _, rfl, ⟨a4, by rw [a3]⟩, rfl⟩
theorem sortsK (m : Nat) : AnyZ.SortsIn Tryz.prog Tryz.sortedD_ren Fence.wide m :=
  ⟨fun blk off cap ss W hH hblk hsz => callsIn_wide.2 (AnyM.slices_Sort_string Tryz.sortD blk off cap ss W hH hblk hsz),
   fun p cap W => callsIn_wide.2 (AnyM.slices_Sort_string_none Tryz.sortD p cap W)⟩
theorem sortedKeys_runsK {w0 : World} {S : St} {Q : AEnd → St → Prop} {b r c : Nat} {es : List (V × V × Nat)} {ks : List (List UInt8)} (hb : S.hp b = some (.fix [.map (some r)])) (hr : S.hp r = some (.map es c)) (hm : StrMapK es c ks) (hn : ks.length ≤ 1000000000000)
  (hQ : Q (.ret (.sl ((sortSK ks).map fun s => .str (mkS s)) ks.length 1 (if ks = [] then .nil else .no))) S) : RSim Tryz.prog w0 n_sortedK [.func n_keysItK [] [.ptr (some (b, 0))]] S Q := by
 refine ⟨⟨_, Tryz.func295, by kernel_rfl, by kernel_rfl⟩, fun g w us hW hrel => ?_⟩
 obtain ⟨u, us', rfl, h1, h2⟩ := hrel
 have : us' = [] := h2
 subst this
 obtain ⟨ps, cs, rfl, hps, hcs⟩ := h1
 have : ps = [] := hps
 subst this
 obtain ⟨pb, ps, rfl, ⟨hbn, rfl⟩, hps⟩ := hcs
 have : ps = [] := hps
 subst this
 obtain ⟨_, hb1, o, ho, hq, usb, tyb, frb, xs, rfl, hx1, hx2⟩ := hW.hp b _ hb
 obtain ⟨_, hr1, o', ho', ms, rfl, hM⟩ := hW.hp r _ hr
 obtain ⟨xm, xr, rfl, ⟨hrn, rfl⟩, hxr⟩ := hx1
 have hloc : g.loc b = ((g.loc b).1, 0) := by rw [← hq]
 have hcell : w.cell? ⟨(g.loc b).1, 0, none⟩ = some (.map (some (g.loc r).1)) := by
  rw [cell_of_row _ _ _ _ _ _ ho]
  exact hx2 0 _ rfl
 have hlen : es.length = ks.length := by have := congrArg List.length hm.keys; simpa using this
 have hkeyEq : ms.toList.map (·.key) = ks.map encStr := by
  apply List.ext_getElem?
  intro j
  simp only [List.getElem?_map]
  cases hj : ms.toList[j]? with
  | none =>
   have h1 := List.getElem?_eq_none_iff.1 hj
   rw [List.getElem?_eq_none (by have := hM.1; omega)]; rfl
  | some m =>
   have h1 := (List.getElem?_eq_some_iff.1 hj).1
   have he : es[j]? = some (es[j]'(by have := hM.1; omega)) := List.getElem?_eq_getElem _
   obtain ⟨hk, _⟩ := hM.2 j _ m he hj
   have hk2 : ks[j]? = some (ks[j]'(by have := hM.1; omega)) := List.getElem?_eq_getElem _
   rw [hk2]
   have h3 : (es.map (·.1))[j]? = (ks.map fun k => V.str (mkS k))[j]? := by rw [hm.keys]
   simp only [List.getElem?_map, he, hk2, Option.map_some, Option.some.injEq] at h3
   rw [h3] at hk
   simp only [Option.map_some, Option.some.injEq]
   exact hk
 have hbornEq : ms.toList.map (·.born) = es.map (·.2.2) := by
  apply List.ext_getElem?
  intro j
  simp only [List.getElem?_map]
  cases hj : ms.toList[j]? with
  | none =>
   have h1 := List.getElem?_eq_none_iff.1 hj
   rw [List.getElem?_eq_none (by have := hM.1; omega)]; rfl
  | some m =>
   have h1 := (List.getElem?_eq_some_iff.1 hj).1
   have he : es[j]? = some (es[j]'(by have := hM.1; omega)) := List.getElem?_eq_getElem _
   obtain ⟨_, _, hk, _⟩ := hM.2 j _ m he hj
   rw [he]
   simp only [Option.map_some, Option.some.injEq]
   exact hk
 have hinj : ∀ {a b : List UInt8}, encStr a = encStr b → a = b := fun h => encStr_inj h
 have hSt : MapKept.Stamped ms c := by
  refine ⟨fun x hx => ?_, by rw [hbornEq]; exact hm.born, by rw [hkeyEq]; exact hm.nodup.map _ (fun a b hab e => hab (hinj e))⟩
  have h1 : x.born ∈ ms.toList.map (·.born) := List.mem_map.2 ⟨x, hx, rfl⟩
  rw [hbornEq] at h1
  obtain ⟨e, he, h2⟩ := List.mem_map.1 h1
  rw [← h2]; exact hm.clock e he
 let R : Value → Option (DataW Nat × List MemPlace) := fun _ => some (.nil, [])
 have hU : Tryz.prog.underlying 9 = some .string := by kernel_rfl
 have hrd : ∀ (x : MapEntry) (k : List UInt8), x.key = encStr k → k.length ≤ maxLen → WideElems.rd Tryz.prog 9 R x = some (.string k, .nil) := fun x k h2 hs => by
  have : keyOf Tryz.prog 9 (encStr k) = some (.string k) := by
   simp [keyOf, hU, encStr, mapKey, ByteArray.size]
   exact hs
  simp only [WideElems.rd, h2, R, this]
  rfl
 have hkey : ∀ x ∈ ms.toList, ∃ k ∈ ks, x.key = encStr k := fun x hx => by
  have h1 : x.key ∈ ms.toList.map (·.key) := List.mem_map.2 ⟨x, hx, rfl⟩
  rw [hkeyEq] at h1
  obtain ⟨k, hk, h2⟩ := List.mem_map.1 h1
  exact ⟨k, hk, h2.symm⟩
 have hrg : ms.toList.map (WideElems.rg Tryz.prog 9 R) = ks.map fun k => (.string k, .nil) := by
  apply List.ext_getElem?
  intro j
  have h3 : (ms.toList.map (·.key))[j]? = (ks.map encStr)[j]? := by rw [hkeyEq]
  simp only [List.getElem?_map] at h3 ⊢
  cases hj : ms.toList[j]? with
  | none =>
   rw [hj] at h3
   cases hk : ks[j]? with
   | none => rfl
   | some k => rw [hk] at h3; cases h3
  | some m =>
   rw [hj] at h3
   cases hk : ks[j]? with
   | none => rw [hk] at h3; cases h3
   | some k =>
    rw [hk] at h3
    simp only [Option.map_some, Option.some.injEq] at h3 ⊢
    rw [WideElems.rg, hrd m k h3 (hm.short k (List.mem_of_getElem? hk))]
    rfl
 generalize hD : (.map ((ms.toList.map (WideElems.rg Tryz.prog 9 R)).foldr DataW.insert []) : DataW Nat) = D0
 have hown : w.ownsMap Tryz.prog 9 R (g.loc r).1 ms.size D0 :=
  ⟨ms, c, ho', ⟨by have := hM.1; simp at this; unfold maxLen; omega, hSt, fun x hx => by obtain ⟨k, h4, h5⟩ := hkey x hx; exact ⟨_, hrd x k h5 (hm.short k h4)⟩⟩, Nat.le_refl _, hD.symm⟩
 have hDp : (strKeys D0).Perm ks := by
  rw [← hD, hrg]
  have := (foldr_insert_permK (H := Nat) (ks.map fun k => (Lit.string k, DataW.nil))).map fun p => strOf p.1
  rw [List.map_map] at this
  have e : (ks.map ((fun p : Lit × DataW Nat => strOf p.1) ∘ fun k => (Lit.string k, DataW.nil))) = ks := by
   rw [show ((fun p : Lit × DataW Nat => strOf p.1) ∘ fun k => (Lit.string k, DataW.nil)) = id from by funext k; rfl, List.map_id]
  rw [e] at this
  exact this
 have hDs : Maps.size D0 = ks.length := by
  have := hDp.length_eq
  rw [← hD] at this ⊢
  simpa [strKeys, Maps.size_eq] using this
 have hseq : SeqGives Fence.wide 2 Tryz.prog n_keysItK #[.pointer (some ⟨(g.loc b).1, 0, none⟩)] encStr (fun ss => ss.Perm (strKeys D0)) (Maps.size D0) w :=
  AnyZ.keys_gives (ρ := Tryz.keysD_ren) { Tryz.keysD with } Fence.wide _ trivial rfl (by omega) (g.loc b).1 (g.loc r).1 ms.size D0 w (hW.lt hb) hcell hown
 have cS := AnyZ.sorted_in Tryz.sortedD Fence.wide 5 trivial trivial trivial trivial rfl (by omega) (sortsK _) (enters_of Tryz.func293 (by kernel_rfl) rfl) n_keysItK #[.pointer (some ⟨(g.loc b).1, 0, none⟩)] trivial
  (enters_of Tryz.func311 (by kernel_rfl) rfl) _ _ (by rw [hDs]; unfold maxLen; omega) (by rw [hDs]; omega) _ hseq
 have hl : Value.func (.func n_keysItK) [].toArray [Value.pointer (some ⟨(g.loc b).1, (g.loc b).2 + 0, none⟩)].toArray = .func (.func n_keysItK) #[] #[.pointer (some ⟨(g.loc b).1, 0, none⟩)] := by
  rw [hloc]
 have hx := callsIn_wide.1 cS
 rw [show [Value.func (.func n_keysItK) [].toArray [Value.pointer (some ⟨(g.loc b).1, (g.loc b).2 + 0, none⟩)].toArray].toArray = #[.func (.func n_keysItK) #[] #[.pointer (some ⟨(g.loc b).1, 0, none⟩)]] from by rw [hl]]
 refine Calls.mono hx fun e w' ⟨v, ss, he, hS, hrow, hnil, hB⟩ => ?_
 subst he
 have hp : ss.Perm ks := hS.trans hDp
 have hsort : ss.mergeSort leB = sortSK ks := mergeSort_of_perm hp
 have hlen2 : ss.length = ks.length := hp.length_eq
 have hlen3 : (sortSK ks).length = ks.length := List.length_mergeSort ks
 have hrow' : w'.ownsRow w.heap.size 9 1 v (sortSK ks).length ((sortSK ks).map encStr) := by
  have h6 : w'.ownsRow w.heap.size 9 1 v ss.length ((ss.mergeSort leB).map encStr) := hrow
  rw [hsort] at h6
  rw [hlen3, ← hlen2]; exact h6
 have hnil' : v = .slice none 0 0 ↔ sortSK ks = [] := by
  rw [hnil]
  constructor
  ·rintro rfl
   exact List.eq_nil_of_length_eq_zero (by rw [hlen3, ← hlen2]; rfl)
  ·intro h
   exact List.eq_nil_of_length_eq_zero (by rw [hlen2, ← hlen3, h]; rfl)
 obtain ⟨g', a1, a2, a3⟩ := hW.stringsK hB hrow' hnil'
 refine ⟨g', S, .ret (.sl ((sortSK ks).map fun s => .str (mkS s)) (sortSK ks).length 1 (if sortSK ks = [] then .nil else .no)), a1, a2, a3, ?_⟩
 have he : sortSK ks = [] ↔ ks = [] := by
  rw [← List.length_eq_zero_iff, hlen3, List.length_eq_zero_iff]
 rw [hlen3]
 simpa only [he] using hQ
end Go.VM
namespace Go.VM
open Go Go.RowKit
attribute [go_sem] some_ite frame0_0 frame0_1 frame0_2 frame0_3 frame0_4 frame0_5 fi ei st wi_nil wi_f wi_fgt wi_fgf wi_alloc wi_box wi_store wi_bs0 wi_bs2 wi_chk wi_chkt wi_chkf wi_egt wi_egf V.light wc_skip wc_reg wc_seq wc_blk wc_exit wc_ret wanted aF Arg.ev put_some put_none seqQ_normal seqQ_ret seqQ_exit seqQ_panic thenQ_normal thenQ_ret thenQ_exit thenQ_panic blkQ_normal blkQ_ret blkQ_exit blkQ_panic resQ_normal resQ_ret resQ_panic retQ_ret retQ_pan readRes_0 readRes_1 readRes_2 readRes_3 readRV fr00_at fillV V.bin binInt V.un V.idx V.eq eqA eqLs_nil eqLs_int eqLs_str eqLs_bool sliceV_sl sliceV_msl bounds_no bounds_hi bounds_lo bounds_lh Option.isSome_none Option.isSome_some List.getElem?_cons_zero List.getElem?_cons_succ List.map_cons List.map_nil List.length_cons List.length_nil Int.natCast_nonneg Int.toNat_natCast Nat.zero_add Nat.add_zero Nat.le_refl and_true true_and Option.bind_some Option.map_some Bool.not_true Bool.not_false Bool.false_eq_true beq_tf beq_ft beq_tt beq_ff eq_self beq_self_eq_true decide_true decide_false ne_eq not_true_eq_false not_false_eq_true false_and and_false implies_true if_true if_false cells_addc cells_addt cells_setc St.add_hp St.set_hp St.kill_hp St.add_n St.set_n St.kill_n V.cells_agg V.cells_bool V.cells_int V.cells_str V.cells_ptr V.cells_sl V.cells_msl V.cells_map V.one_bool V.one_int V.one_str V.one_ptr V.one_sl V.one_msl V.one_eptr V.one_map V.one_iface takeC_false takeC_true List.all_cons List.all_nil Bool.and_true Bool.true_and Bool.and_self splice List.take_succ_cons List.take_zero List.take_nil List.drop_succ_cons List.drop_zero List.drop_nil List.cons_append List.nil_append List.append_nil List.head?_cons Nat.add_eq_left Nat.left_eq_add Nat.add_right_cancel_iff Nat.add_left_cancel_iff Nat.succ_ne_self St.set_set Option.isNone_none Option.isNone_some Option.some.injEq isKey_str isKey_int isKey_bool mkS_size mkS_get mkS_toList str_eql str_neq str_lss
attribute [go_sem_proc] Nat.reduceEqDiff Nat.reduceAdd Nat.reduceMul Nat.reduceSub Nat.reduceLeDiff Int.reduceBEq Int.reduceBNe Int.reduceLT Int.reduceLE Int.reduceGT Int.reduceGE Int.reduceEq reduceCtorEq
attribute [go_sem_proc ↓] reduceIte
end Go.VM
namespace Go.VM
open Go Go.RowKit
section
variable {α β : Type} {cell : α → List β} {sz : Nat}
end
def RowAt (S : St) (v : V) (cs : List V) (n sz o : Nat) : Prop := (n = 0 ∧ v = .sl [] 0 sz .nil ∧ cs = []) ∨ (n ≠ 0 ∧ v = .msl o 0 n sz ∧ S.cells o = some cs ∧ cs.length = n * sz ∧ o < S.n)
theorem RowAt.nil (S : St) (sz o : Nat) : RowAt S (.sl [] 0 sz .nil) [] 0 sz o := .inl ⟨rfl, rfl, rfl⟩
theorem RowAt.keep {S S' : St} {v : V} {cs : List V} {n sz o : Nat} {p : Nat → Prop} (h : RowAt S v cs n sz o) (k : Keeps p S S') (hp : n ≠ 0 → ¬ p o) : RowAt S' v cs n sz o := by
 rcases h with h | ⟨h0, h1, h2, h3, h4⟩
 ·exact .inl h
 ·exact .inr ⟨h0, h1, k.cells h2 h4 (hp h0), h3, k.lt h4⟩
theorem RowAt.elems {S : St} {v : V} {cs : List V} {n sz o : Nat} (h : RowAt S v cs n sz o) : v.elems S sz = some (n, cs) := by
 rcases h with ⟨rfl, rfl, rfl⟩ | ⟨h0, rfl, h2, h3, h4⟩
 ·simp [V.elems]
 ·simp only [V.elems, if_true, h2, Option.bind_some, Nat.zero_add, h3, Nat.le_refl, List.drop_zero, Option.some.injEq, Prod.mk.injEq, true_and]
  exact List.take_of_length_le (by omega)
theorem RowAt.one {S : St} {v : V} {cs : List V} {n sz o : Nat} (h : RowAt S v cs n sz o) : v.one = true := by
 rcases h with ⟨rfl, rfl, rfl⟩ | ⟨h0, rfl, h2, h3, h4⟩ <;> rfl
theorem RowAt.own {S : St} {v : V} {cs : List V} {n sz o : Nat} (h : RowAt S v cs n sz o) : v.cells = [v] := cells_one h.one
theorem hp_cells' {S : St} {i : Nat} {cs : List V} (h : S.cells i = some cs) : S.hp i = some (.cells cs) := by
 unfold St.cells at h
 split at h
 ·rename_i x hx; injection h with h; rw [hx, h]
 ·cases h
end Go.VM
namespace Go.VM
open Go Go.RowKit Go.Proofs Go.Sort Go.Shelf Go.Lib
theorem RelW.other {w0 w : World} {g : G} {S : St} (h : RelW w0 g S w) (o : Obj) : ∃ g', g.le g' ∧ RelW w0 g' S (w.alloc o) ∧ g'.loc = g.loc ∧ g'.n = g.n := by
 have hle := le_block h #[] 0
 refine ⟨g.block #[] 0, hle, ⟨h.below.alloc h.below.size _, by simp [G.block, h.nb], h.n, fun b p u hu => ?_, fun i x hx => ?_, h.sep⟩, rfl, rfl⟩
 ·simp only [G.block] at hu
  split at hu
  ·split at hu
   ·simp at hu
   ·cases hu
  ·rw [World.cell?_alloc_lt w _ _ (h.iceLt hu)]
   exact h.ice b p u hu
 ·obtain ⟨h1, h2, o', h3, h4⟩ := h.hp i x hx
  have hlt := h.lt hx
  refine ⟨h1, h2, o', ?_, h4.mono hle (by rw [h.nb]; exact hlt) (fun p => ?_)⟩
  ·show (w.alloc _).heap[(g.loc i).1]? = _
   exact (Below.heap_alloc w _ _ hlt).trans h3
  ·simp only [G.block]
   rw [if_neg (by rw [h.nb]; exact Nat.ne_of_lt hlt)]
theorem RelW.grownL {w0 : World} {S : St} : ∀ (os : List Obj) {w : World} {g : G}, RelW w0 g S w → ∃ g', g.le g' ∧ RelW w0 g' S (grow w os.toArray) ∧ g'.loc = g.loc ∧ g'.n = g.n
 | [], w, g, h => ⟨g, G.le.refl g, by rw [grow_empty]; exact h, rfl, rfl⟩
 | o :: os, w, g, h => by
  obtain ⟨g1, l1, h1, e1, n1⟩ := h.other o
  obtain ⟨g2, l2, h2, e2, n2⟩ := RelW.grownL os h1
  refine ⟨g2, l1.trans l2, ?_, e2.trans e1, n2.trans n1⟩
  rw [alloc_eq_grow, grow_grow] at h2
  have : #[o] ++ os.toArray = (o :: os).toArray := by simp
  rw [this] at h2
  exact h2
def sortI (l : List Int) : List Int := l.mergeSort fun x y => decide (x ≤ y)
theorem relL_ints {g : G} : ∀ {l : List Int} {us : List Value}, RelL g (l.map (V.int .i64)) us → us = l.map (Value.int .i64)
 | [], us, h => h
 | p :: l, us, h => by
  obtain ⟨u1, r1, rfl, h1, h⟩ := h
  have h1 : u1 = _ := h1
  rw [h1, relL_ints h]; rfl
theorem ints_relL (g : G) : ∀ l : List Int, RelL g (l.map (V.int .i64)) (l.map (Value.int .i64))
 | [] => rfl
 | p :: l => ⟨_, _, rfl, rfl, ints_relL g l⟩
theorem sortInt_runs {w0 : World} {S : St} {Q : AEnd → St → Prop} {l : List Int} {o : Nat} (hc : S.cells o = some (l.map (V.int .i64))) (hn : l ≠ []) (hsz : l.length ≤ 1000000)
  (hQ : Q (.ret (.tup [])) (S.set o (.cells ((sortI l).map (V.int .i64))))) : RSim Tryz.prog w0 44 [.msl o 0 l.length 1] S Q := by
 have h0 : l.length ≠ 0 := fun e => hn (List.eq_nil_of_length_eq_zero e)
 refine ⟨⟨_, Tryz.func44, by kernel_rfl, by kernel_rfl⟩, fun g w us hW hrel => ?_⟩
 obtain ⟨u, us', rfl, h1, hus⟩ := hrel
 have : us' = [] := hus
 subst this
 obtain ⟨hon, cap, rfl, hncap, hbnb, hbs⟩ := h1
 obtain ⟨_, hb0, ob, hob, hRO⟩ := hW.hp o _ (hp_cells' hc)
 obtain ⟨usb, tyb, frb, rfl, hfz, husz, hice, xs, hx1, hx2, hx3⟩ : ∃ us ty fr, ob = .cells us ty fr ∧ NoFz fr us.size ∧ us.size = g.bs (g.loc o).1 ∧ (∀ i, g.ice (g.loc o).1 i = none) ∧ ∃ xs, RelL g (l.map (V.int .i64)) xs ∧ Ones xs ∧ ∀ (j : Nat) (v : Value), xs[j]? = some v → us[(g.loc o).2 + j]? = some v := hRO
 have hxs := relL_ints hx1
 subst hxs
 have hlt : (g.loc o).1 < w.heap.size := (Array.getElem?_eq_some_iff.1 hob).1
 have hget : ∀ j (hj : j < l.length), usb[(g.loc o).2 + j]? = some (Value.int .i64 (l[j]'hj)) := fun j hj => hx3 j _ (by rw [List.getElem?_map, List.getElem?_eq_getElem hj]; rfl)
 have hH : Holds (Value.int .i64) w (g.loc o).1 ((g.loc o).2 + 0) l.toArray := by
  intro j hj
  have hj : j < l.length := by simpa using hj
  have h5 := hget j hj
  refine ⟨?_, ?_⟩
  ·rw [cell_of_row _ _ _ _ _ _ hob]
   have e : l.toArray[j]! = l[j]'hj := by simp [hj]
   rw [e]; exact h5
  ·simp only [World.frozen?, hob]
   have := hfz.at_ ((g.loc o).2 + 0 + j) (Array.getElem?_eq_some_iff.1 h5).1
   simpa using this
 have hcon := AnyM.slices_Sort_int Tryz.sortI (g.loc o).1 ((g.loc o).2 + 0) cap l w hH hlt (by omega)
 refine Calls.mono hcon ?_
 rintro e w' ⟨rfl, n, os, rfl⟩
 have hsl : (l.mergeSort fun x y => decide (x ≤ y)).length = l.length := List.length_mergeSort ..
 generalize hF : (l.mergeSort fun x y => decide (x ≤ y)) = F at *
 have hsame : ∀ k, k ≠ (g.loc o).1 → (putRow (Value.int .i64) (Sort.ahead w n) (g.loc o).1 ((g.loc o).2 + 0) F.toArray).heap[k]? = w.heap[k]? := fun k hk => by
  show (w.heap.modify _ _)[k]? = _
  rw [Array.getElem?_modify, if_neg (Ne.symm hk)]
 have hnew : (putRow (Value.int .i64) (Sort.ahead w n) (g.loc o).1 ((g.loc o).2 + 0) F.toArray).heap[(g.loc o).1]? = some (.cells (putCells (Value.int .i64) ((g.loc o).2 + 0) F.toArray usb) tyb frb) := by
  show (w.heap.modify _ _)[(g.loc o).1]? = _
  rw [Array.getElem?_modify, if_pos rfl, hob]
  rfl
 have hsize : (putRow (Value.int .i64) (Sort.ahead w n) (g.loc o).1 ((g.loc o).2 + 0) F.toArray).heap.size = w.heap.size := by rw [Go.Sort.size_putRow]; rfl
 have hbel : Below w0.heap.size w0 (putRow (Value.int .i64) (Sort.ahead w n) (g.loc o).1 ((g.loc o).2 + 0) F.toArray) := by
  have hb := hW.below
  refine ⟨hb.os, hb.tape, hb.output, by rw [hsize]; exact hb.size, fun k hk => ?_⟩
  rw [hsame k (by omega)]
  exact hb.block k hk
 have hput : (putCells (Value.int .i64) ((g.loc o).2 + 0) F.toArray usb).size = usb.size := by simp [putCells]
 have hW1 := hW.upd (x' := .cells (F.map (V.int .i64))) (hp_cells' hc) hbel hsize (fun k _ hk => hsame k hk) hnew (fun p u hu => by rw [hice p] at hu; cases hu)
  ⟨_, _, _, rfl, by rw [hput]; exact hfz, by rw [hput]; exact husz, hice, F.map (Value.int .i64), ints_relL g _, fun x hx => by
   obtain ⟨q, _, rfl⟩ := List.mem_map.1 hx
   rfl, fun j x hx => by
   have hj : j < F.length := by
    have := (List.getElem?_eq_some_iff.1 hx).1
    simpa using this
   have h6 := hget j (by omega)
   rw [List.getElem?_map, List.getElem?_eq_getElem hj] at hx
   injection hx with hx
   simp only [putCells, Array.getElem?_mapIdx, h6, Option.map_some]
   rw [if_pos (by simp; omega), ← hx]
   have e : (g.loc o).2 + j - ((g.loc o).2 + 0) = j := by omega
   rw [e]
   simp [hj]⟩
 obtain ⟨g2, l2, W2, e2, n2⟩ := RelW.grownL os.toList hW1
 rw [Array.toArray_toList] at W2
 refine ⟨g2, S.set o (.cells (F.map (V.int .i64))), .ret (.tup []), l2, W2, ⟨[], rfl, rfl⟩, ?_⟩
 have : sortI l = F := hF
 rw [this] at hQ
 exact hQ
theorem sortNil_runs {w0 : World} {S : St} {Q : AEnd → St → Prop} (hQ : Q (.ret (.tup [])) S) : RSim Tryz.prog w0 44 [.sl [] 0 1 .nil] S Q := by
 refine ⟨⟨_, Tryz.func44, by kernel_rfl, by kernel_rfl⟩, fun g w us hW hrel => ?_⟩
 obtain ⟨u, us', rfl, h1, hus⟩ := hrel
 have : us' = [] := hus
 subst this
 obtain ⟨_, h2⟩ := h1
 obtain ⟨p, cap, rfl⟩ : ∃ p cap, u = .slice p 0 cap := by
  rcases h2 with ⟨_, _, _, rfl⟩ | ⟨h, _⟩ | ⟨h, _⟩ <;> first | exact ⟨_, _, rfl⟩ | exact absurd rfl h | (rcases h with h | h <;> cases h)
 refine Calls.mono (AnyM.slices_Sort_int_none Tryz.sortI p cap w) ?_
 rintro e w' ⟨rfl, rfl⟩
 exact ⟨g, S, .ret (.tup []), G.le.refl g, hW, ⟨[], rfl, rfl⟩, hQ⟩
theorem sortI_perm {l l' : List Int} (h : l.Perm l') : sortI l = sortI l' := by
 have tr : ∀ a b c : Int, decide (a ≤ b) = true → decide (b ≤ c) = true → decide (a ≤ c) = true := fun a b c h1 h2 => by simp only [decide_eq_true_eq] at *; omega
 have to : ∀ a b : Int, (decide (a ≤ b) || decide (b ≤ a)) = true := fun a b => by simp only [Bool.or_eq_true, decide_eq_true_eq]; omega
 refine List.Perm.eq_of_pairwise (le := fun a b : Int => decide (a ≤ b) = true) (fun a b _ _ h1 h2 => ?_) (List.pairwise_mergeSort tr to l) (List.pairwise_mergeSort tr to l') (((List.mergeSort_perm l _).trans h).trans (List.mergeSort_perm l' _).symm)
 simp only [decide_eq_true_eq] at h1 h2
 omega
theorem RSim.forget {w0 : World} {f : FuncId} {args : List V} {S : St} {i : Nat} {Q : AEnd → St → Prop} (h : RSim Tryz.prog w0 f args S fun e S' => Q e (S'.kill i)) : RSim Tryz.prog w0 f args S Q :=
 ⟨h.1, fun g w us hW hr => (h.2 g w us hW hr).mono fun e w' ⟨g', S', e', a, b, c, d⟩ => ⟨g', S'.kill i, e', a, b.kill i, c, d⟩⟩
end Go.VM
