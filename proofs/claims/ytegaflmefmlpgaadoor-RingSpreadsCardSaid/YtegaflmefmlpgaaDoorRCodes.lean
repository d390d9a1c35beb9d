/-
  The codes of functions, as the value machine has them, and that they stand for the model's (printed by a program, wip/gen).
-/
import Derived.Test.YtegaflmefmlpgaaDoorVmSet
import Derived.Test.YtegaflmefmlpgaaDoorProg
import Derived.KernelRfl
set_option linter.unusedVariables false
set_option maxRecDepth 100000
namespace Go.VM
open Go Go.Proofs

theorem mixed : Tryd.prog.follows .mixedOrders = true := by kernel_rfl
/-- internal/strconv.FormatInt -/
abbrev n_internal_strconv_FormatInt : Nat := 80
def b_internal_strconv_FormatInt : Cd := (.seq (.reg [] [.run ⟨(some 4), none, .f (.mv (.c (.str (mkS []))))⟩])
   (.seq (.seq (.reg [] [.run ⟨(some 10), none, .f (.mv (.t 1))⟩,
    .run ⟨(some 11), none, .f (.bin .eql (.t 10) (.c (.int .i64 10)))⟩])
   (.ite (.t 11)
   (.seq (.seq (.reg [] [.run ⟨(some 12), none, .f (.mv (.t 0))⟩,
    .run ⟨(some 13), none, .f (.bin .leq (.c (.int .i64 0)) (.t 12))⟩,
    .run ⟨(some 14), none, .f (.mv (.t 13))⟩,
    .run ⟨(some 15), (some (14, true)), .f (.mv (.t 0))⟩,
    .run ⟨(some 16), (some (14, true)), .f (.bin .lss (.t 15) (.c (.int .i64 100)))⟩,
    .run ⟨(some 17), none, .f (.pick (.t 14) (.t 16) (.c (.bool false)))⟩])
   (.ite (.t 17)
   (.seq (.reg [] [.run ⟨(some 18), none, .f (.mv (.t 0))⟩,
    .run ⟨(some 19), none, .e (.call 104 [(.t 18)])⟩,
    .run ⟨(some 4), none, .f (.mv (.t 19))⟩])
   .ret)
   .skip))
   (.seq (.reg [] [.run ⟨(some 5), none, .e (.alloc [(.int .u8 0), (.int .u8 0), (.int .u8 0), (.int .u8 0), (.int .u8 0), (.int .u8 0), (.int .u8 0), (.int .u8 0), (.int .u8 0), (.int .u8 0), (.int .u8 0), (.int .u8 0), (.int .u8 0), (.int .u8 0), (.int .u8 0), (.int .u8 0), (.int .u8 0), (.int .u8 0), (.int .u8 0), (.int .u8 0), (.int .u8 0), (.int .u8 0), (.int .u8 0), (.int .u8 0)])⟩])
   (.seq (.reg [] [.run ⟨(some 20), none, .f (.mv (.t 0))⟩,
    .run ⟨(some 21), none, .f (.conv (.int .u64) (.t 20))⟩,
    .run ⟨(some 6), none, .f (.mv (.t 21))⟩])
   (.seq (.seq (.reg [] [.run ⟨(some 22), none, .f (.mv (.t 0))⟩,
    .run ⟨(some 23), none, .f (.bin .lss (.t 22) (.c (.int .i64 0)))⟩])
   (.ite (.t 23)
   (.reg [] [.run ⟨(some 24), none, .f (.mv (.t 6))⟩,
    .run ⟨(some 25), none, .f (.un .neg (.t 24))⟩,
    .run ⟨(some 6), none, .f (.mv (.t 25))⟩])
   .skip))
   (.seq (.reg [] [.run ⟨(some 26), none, .f (.mv (.t 6))⟩,
    .run ⟨(some 27), none, .e (.call 105 [(.t 26)])⟩,
    .run ⟨(some 7), none, .f (.mv (.t 27))⟩])
   (.seq .stuck
   (.seq (.seq (.reg [] [.run ⟨(some 33), none, .f (.mv (.t 0))⟩,
    .run ⟨(some 34), none, .f (.bin .lss (.t 33) (.c (.int .i64 0)))⟩])
   (.ite (.t 34)
   (.seq (.reg [] [.run ⟨(some 35), none, .f (.indexAddrA 24 1 (.t 5) (.c (.int .i64 0)))⟩,
    .run ⟨none, none, .e (.store 1 (.t 35) (.c (.int .u8 45)))⟩])
   (.seq .stuck
   .ret))
   .skip))
   (.seq .stuck
   .ret))))))))
   .skip))
   (.seq (.reg [] [.run ⟨(some 45), none, .f (.mv (.t 0))⟩,
    .run ⟨(some 46), none, .f (.conv (.int .u64) (.t 45))⟩,
    .run ⟨(some 47), none, .f (.mv (.t 1))⟩,
    .run ⟨(some 48), none, .f (.mv (.t 0))⟩,
    .run ⟨(some 49), none, .f (.bin .lss (.t 48) (.c (.int .i64 0)))⟩,
    .run ⟨(some 50), none, .e (.call 107 [(.c (.sl [] 0 1 .nil)), (.t 46), (.t 47), (.t 49), (.c (.bool false))])⟩,
    .run ⟨(some 44), none, .f (.mv (.t 50))⟩,
    .run ⟨(some 51), none, .f (.extract (.t 44) 0)⟩,
    .run ⟨(some 52), none, .f (.extract (.t 44) 1)⟩,
    .run ⟨(some 8), none, .f (.mv (.t 51))⟩,
    .run ⟨(some 9), none, .f (.mv (.t 52))⟩])
   (.seq (.reg [] [.run ⟨(some 53), none, .f (.mv (.t 9))⟩,
    .run ⟨(some 4), none, .f (.mv (.t 53))⟩])
   .ret))))
theorem k_internal_strconv_FormatInt : chkFn Tryd.prog n_internal_strconv_FormatInt ⟨b_internal_strconv_FormatInt, [.tmp 4], 54⟩ = true := by kernel_rfl
/-- internal/strconv.Itoa -/
abbrev n_internal_strconv_Itoa : Nat := 67
def b_internal_strconv_Itoa : Cd := (.seq (.reg [] [.run ⟨(some 2), none, .f (.mv (.c (.str (mkS []))))⟩])
   (.seq (.reg [] [.run ⟨(some 3), none, .f (.mv (.t 0))⟩,
    .run ⟨(some 4), none, .e (.call 80 [(.t 3), (.c (.int .i64 10))])⟩,
    .run ⟨(some 2), none, .f (.mv (.t 4))⟩])
   .ret))
theorem k_internal_strconv_Itoa : chkFn Tryd.prog n_internal_strconv_Itoa ⟨b_internal_strconv_Itoa, [.tmp 2], 5⟩ = true := by kernel_rfl
/-- internal/strconv.small -/
abbrev n_internal_strconv_small : Nat := 104
def b_internal_strconv_small : Cd := (.seq (.reg [] [.run ⟨(some 2), none, .f (.mv (.c (.str (mkS []))))⟩])
   (.seq (.seq (.reg [] [.run ⟨(some 3), none, .f (.mv (.t 0))⟩,
    .run ⟨(some 4), none, .f (.bin .lss (.t 3) (.c (.int .i64 10)))⟩])
   (.ite (.t 4)
   (.seq (.reg [] [.run ⟨(some 5), none, .f (.mv (.t 0))⟩,
    .run ⟨(some 6), none, .f (.mv (.t 0))⟩,
    .run ⟨(some 7), none, .f (.bin .add (.t 6) (.c (.int .i64 1)))⟩,
    .run ⟨(some 8), none, .f (.sliceS (.c (.str (mkS [48, 49, 50, 51, 52, 53, 54, 55, 56, 57, 97, 98, 99, 100, 101, 102, 103, 104, 105, 106, 107, 108, 109, 110, 111, 112, 113, 114, 115, 116, 117, 118, 119, 120, 121, 122]))) (some (.t 5)) (some (.t 7)))⟩,
    .run ⟨(some 2), none, .f (.mv (.t 8))⟩])
   .ret)
   .skip))
   (.seq (.reg [] [.run ⟨(some 9), none, .f (.mv (.t 0))⟩,
    .run ⟨(some 10), none, .f (.bin .mul (.t 9) (.c (.int .i64 2)))⟩,
    .run ⟨(some 11), none, .f (.mv (.t 0))⟩,
    .run ⟨(some 12), none, .f (.bin .mul (.t 11) (.c (.int .i64 2)))⟩,
    .run ⟨(some 13), none, .f (.bin .add (.t 12) (.c (.int .i64 2)))⟩,
    .run ⟨(some 14), none, .f (.sliceS (.c (.str (mkS [48, 48, 48, 49, 48, 50, 48, 51, 48, 52, 48, 53, 48, 54, 48, 55, 48, 56, 48, 57, 49, 48, 49, 49, 49, 50, 49, 51, 49, 52, 49, 53, 49, 54, 49, 55, 49, 56, 49, 57, 50, 48, 50, 49, 50, 50, 50, 51, 50, 52, 50, 53, 50, 54, 50, 55, 50, 56, 50, 57, 51, 48, 51, 49, 51, 50, 51, 51, 51, 52, 51, 53, 51, 54, 51, 55, 51, 56, 51, 57, 52, 48, 52, 49, 52, 50, 52, 51, 52, 52, 52, 53, 52, 54, 52, 55, 52, 56, 52, 57, 53, 48, 53, 49, 53, 50, 53, 51, 53, 52, 53, 53, 53, 54, 53, 55, 53, 56, 53, 57, 54, 48, 54, 49, 54, 50, 54, 51, 54, 52, 54, 53, 54, 54, 54, 55, 54, 56, 54, 57, 55, 48, 55, 49, 55, 50, 55, 51, 55, 52, 55, 53, 55, 54, 55, 55, 55, 56, 55, 57, 56, 48, 56, 49, 56, 50, 56, 51, 56, 52, 56, 53, 56, 54, 56, 55, 56, 56, 56, 57, 57, 48, 57, 49, 57, 50, 57, 51, 57, 52, 57, 53, 57, 54, 57, 55, 57, 56, 57, 57]))) (some (.t 10)) (some (.t 13)))⟩,
    .run ⟨(some 2), none, .f (.mv (.t 14))⟩])
   .ret)))
theorem k_internal_strconv_small : chkFn Tryd.prog n_internal_strconv_small ⟨b_internal_strconv_small, [.tmp 2], 15⟩ = true := by kernel_rfl
/-- fascine/fascinelaw13.RingGrows -/
abbrev n_l13_RingGrows : Nat := 4
def b_l13_RingGrows : Cd := (.seq (.reg [] [.run ⟨(some 4), none, .f (.mv (.c (.bool false)))⟩])
   (.seq (.seq (.reg [] [.run ⟨(some 10), none, .e (.call 10 [])⟩,
    .run ⟨(some 11), none, .f (.un .not (.t 10))⟩])
   (.ite (.t 11)
   (.seq (.reg [] [.run ⟨(some 4), none, .f (.mv (.c (.bool false)))⟩])
   .ret)
   .skip))
   (.seq (.reg [] [.run ⟨(some 12), none, .f (.mv (.t 1))⟩,
    .run ⟨(some 13), none, .f (.conv (.int .i64) (.t 12))⟩,
    .run ⟨(some 14), none, .f (.bin .rem (.t 13) (.c (.int .i64 7)))⟩,
    .run ⟨(some 15), none, .f (.bin .add (.c (.int .i64 1)) (.t 14))⟩,
    .run ⟨(some 5), none, .f (.mv (.t 15))⟩])
   (.seq (.reg [] [.run ⟨(some 17), none, .f (.mv (.t 0))⟩,
    .run ⟨(some 18), none, .f (.mv (.t 5))⟩,
    .run ⟨(some 19), none, .e (.call 11 [(.t 17), (.t 18)])⟩,
    .run ⟨(some 16), none, .f (.mv (.t 19))⟩,
    .run ⟨(some 20), none, .f (.extract (.t 16) 0)⟩,
    .run ⟨(some 21), none, .f (.extract (.t 16) 1)⟩,
    .run ⟨(some 6), none, .f (.mv (.t 20))⟩,
    .run ⟨(some 7), none, .f (.mv (.t 21))⟩])
   (.seq (.reg [] [.run ⟨(some 23), none, .f (.mv (.t 0))⟩,
    .run ⟨(some 24), none, .f (.mv (.t 5))⟩,
    .run ⟨(some 25), none, .f (.bin .add (.t 24) (.c (.int .i64 1)))⟩,
    .run ⟨(some 26), none, .e (.call 11 [(.t 23), (.t 25)])⟩,
    .run ⟨(some 22), none, .f (.mv (.t 26))⟩,
    .run ⟨(some 27), none, .f (.extract (.t 22) 0)⟩,
    .run ⟨(some 28), none, .f (.extract (.t 22) 1)⟩,
    .run ⟨(some 8), none, .f (.mv (.t 27))⟩,
    .run ⟨(some 9), none, .f (.mv (.t 28))⟩])
   (.seq (.reg [] [.run ⟨(some 29), none, .f (.mv (.t 7))⟩,
    .run ⟨(some 30), none, .f (.bin .eql (.t 29) (.c (.int .i64 0)))⟩,
    .run ⟨(some 31), none, .f (.mv (.t 30))⟩,
    .run ⟨(some 32), (some (31, true)), .f (.mv (.t 9))⟩,
    .run ⟨(some 33), (some (31, true)), .f (.bin .eql (.t 32) (.c (.int .i64 0)))⟩,
    .run ⟨(some 34), none, .f (.pick (.t 31) (.t 33) (.c (.bool false)))⟩,
    .run ⟨(some 35), none, .f (.mv (.t 34))⟩,
    .run ⟨(some 36), (some (35, true)), .f (.mv (.t 6))⟩,
    .run ⟨(some 37), (some (35, true)), .f (.mv (.t 8))⟩,
    .run ⟨(some 38), (some (35, true)), .f (.bin .eql (.t 36) (.t 37))⟩,
    .run ⟨(some 39), (some (35, true)), .f (.mv (.t 38))⟩,
    .run ⟨(some 40), (some (39, false)), .f (.mv (.t 8))⟩,
    .run ⟨(some 41), (some (39, false)), .f (.mv (.t 5))⟩,
    .run ⟨(some 42), (some (39, false)), .f (.bin .eql (.t 40) (.t 41))⟩,
    .run ⟨(some 43), (some (35, true)), .f (.pick (.t 39) (.c (.bool true)) (.t 42))⟩,
    .run ⟨(some 44), none, .f (.pick (.t 35) (.t 43) (.c (.bool false)))⟩,
    .run ⟨(some 4), none, .f (.mv (.t 44))⟩])
   .ret))))))
theorem k_l13_RingGrows : chkFn Tryd.prog n_l13_RingGrows ⟨b_l13_RingGrows, [.tmp 4], 45⟩ = true := by kernel_rfl
/-- fascine/fascinelaw13.RingShards -/
abbrev n_l13_RingShards : Nat := 3
def b_l13_RingShards : Cd := (.seq (.reg [] [.run ⟨(some 4), none, .f (.mv (.c (.bool false)))⟩])
   (.seq (.seq (.reg [] [.run ⟨(some 7), none, .e (.call 10 [])⟩,
    .run ⟨(some 8), none, .f (.un .not (.t 7))⟩,
    .run ⟨(some 9), none, .f (.mv (.t 8))⟩,
    .run ⟨(some 10), none, .f (.pick (.t 9) (.c (.bool true)) (.c (.bool false)))⟩])
   (.ite (.t 10)
   (.seq (.reg [] [.run ⟨(some 4), none, .f (.mv (.c (.bool false)))⟩])
   .ret)
   .skip))
   (.seq (.reg [] [.run ⟨(some 12), none, .f (.mv (.t 0))⟩,
    .run ⟨(some 13), none, .f (.mv (.t 1))⟩,
    .run ⟨(some 14), none, .e (.call 11 [(.t 12), (.t 13)])⟩,
    .run ⟨(some 11), none, .f (.mv (.t 14))⟩,
    .run ⟨(some 15), none, .f (.extract (.t 11) 0)⟩,
    .run ⟨(some 16), none, .f (.extract (.t 11) 1)⟩,
    .run ⟨(some 5), none, .f (.mv (.t 15))⟩,
    .run ⟨(some 6), none, .f (.mv (.t 16))⟩])
   (.seq (.seq (.reg [] [.run ⟨(some 17), none, .f (.mv (.t 1))⟩,
    .run ⟨(some 18), none, .f (.bin .lss (.t 17) (.c (.int .i64 1)))⟩,
    .run ⟨(some 19), none, .f (.mv (.t 18))⟩,
    .run ⟨(some 20), (some (19, false)), .f (.mv (.t 1))⟩,
    .run ⟨(some 21), (some (19, false)), .f (.bin .gtr (.t 20) (.c (.int .i64 8)))⟩,
    .run ⟨(some 22), none, .f (.pick (.t 19) (.c (.bool true)) (.t 21))⟩])
   (.ite (.t 22)
   (.seq (.reg [] [.run ⟨(some 23), none, .f (.mv (.t 6))⟩,
    .run ⟨(some 24), none, .f (.bin .eql (.t 23) (.c (.int .i64 1)))⟩,
    .run ⟨(some 25), none, .f (.mv (.t 24))⟩,
    .run ⟨(some 26), (some (25, true)), .f (.mv (.t 5))⟩,
    .run ⟨(some 27), (some (25, true)), .f (.bin .eql (.t 26) (.c (.int .i64 0)))⟩,
    .run ⟨(some 28), none, .f (.pick (.t 25) (.t 27) (.c (.bool false)))⟩,
    .run ⟨(some 4), none, .f (.mv (.t 28))⟩])
   .ret)
   .skip))
   (.seq (.reg [] [.run ⟨(some 29), none, .f (.mv (.t 6))⟩,
    .run ⟨(some 30), none, .f (.bin .eql (.t 29) (.c (.int .i64 0)))⟩,
    .run ⟨(some 31), none, .f (.mv (.t 30))⟩,
    .run ⟨(some 32), (some (31, true)), .f (.mv (.t 5))⟩,
    .run ⟨(some 33), (some (31, true)), .f (.mv (.t 0))⟩,
    .run ⟨(some 34), (some (31, true)), .f (.mv (.t 1))⟩,
    .run ⟨(some 35), (some (31, true)), .e (.call 12 [(.t 33), (.t 34)])⟩,
    .run ⟨(some 36), (some (31, true)), .f (.bin .eql (.t 32) (.t 35))⟩,
    .run ⟨(some 37), none, .f (.pick (.t 31) (.t 36) (.c (.bool false)))⟩,
    .run ⟨(some 38), none, .f (.mv (.t 37))⟩,
    .run ⟨(some 39), (some (38, true)), .f (.mv (.t 0))⟩,
    .run ⟨(some 40), (some (38, true)), .e (.call 13 [(.t 39)])⟩,
    .run ⟨(some 41), (some (38, true)), .f (.mv (.t 0))⟩,
    .run ⟨(some 42), (some (38, true)), .e (.call 14 [(.t 41)])⟩,
    .run ⟨(some 43), (some (38, true)), .f (.bin .eql (.t 40) (.t 42))⟩,
    .run ⟨(some 44), none, .f (.pick (.t 38) (.t 43) (.c (.bool false)))⟩,
    .run ⟨(some 4), none, .f (.mv (.t 44))⟩])
   .ret)))))
theorem k_l13_RingShards : chkFn Tryd.prog n_l13_RingShards ⟨b_l13_RingShards, [.tmp 4], 45⟩ = true := by kernel_rfl
/-- fascine/fascinelaw13.RingSpreads -/
abbrev n_l13_RingSpreads : Nat := 5
def k_l13_RingSpreads_0 : Cd := (.seq (.reg [] [.run ⟨(some 24), none, .f (.mv (.t 0))⟩,
    .run ⟨(some 25), none, .f (.bin .rem (.t 24) (.c (.int .u8 26)))⟩,
    .run ⟨(some 26), none, .f (.bin .add (.c (.int .u8 97)) (.t 25))⟩,
    .run ⟨(some 27), none, .f (.mv (.t 7))⟩,
    .run ⟨(some 28), none, .f (.bin .rem (.t 27) (.c (.int .i64 20)))⟩,
    .run ⟨(some 29), none, .f (.bin .add (.c (.int .i64 97)) (.t 28))⟩,
    .run ⟨(some 30), none, .f (.conv (.int .u8) (.t 29))⟩,
    .run ⟨(some 31), none, .f (.mv (.t 7))⟩,
    .run ⟨(some 32), none, .f (.bin .quo (.t 31) (.c (.int .i64 20)))⟩,
    .run ⟨(some 33), none, .f (.bin .add (.c (.int .i64 97)) (.t 32))⟩,
    .run ⟨(some 34), none, .f (.conv (.int .u8) (.t 33))⟩,
    .run ⟨(some 35), none, .e (.buildSlice 3 1 0 [(.int .u8 0), (.int .u8 0), (.int .u8 0)] [(0, 1, (.t 26)), (1, 1, (.t 30)), (2, 1, (.t 34))])⟩,
    .run ⟨(some 36), none, .f (.conv .bytesStr (.t 35))⟩,
    .run ⟨(some 37), none, .f (.mv (.t 5))⟩,
    .run ⟨(some 38), none, .e (.call 11 [(.t 36), (.t 37)])⟩,
    .run ⟨(some 23), none, .f (.mv (.t 38))⟩,
    .run ⟨(some 39), none, .f (.extract (.t 23) 0)⟩,
    .run ⟨(some 40), none, .f (.extract (.t 23) 1)⟩,
    .run ⟨(some 8), none, .f (.mv (.t 39))⟩,
    .run ⟨(some 9), none, .f (.mv (.t 40))⟩])
   (.seq (.seq (.reg [] [.run ⟨(some 41), none, .f (.mv (.t 9))⟩,
    .run ⟨(some 42), none, .f (.bin .neq (.t 41) (.c (.int .i64 0)))⟩,
    .run ⟨(some 43), none, .f (.mv (.t 42))⟩,
    .run ⟨(some 44), (some (43, false)), .f (.mv (.t 8))⟩,
    .run ⟨(some 45), (some (43, false)), .f (.bin .lss (.t 44) (.c (.int .i64 0)))⟩,
    .run ⟨(some 46), none, .f (.pick (.t 43) (.c (.bool true)) (.t 45))⟩,
    .run ⟨(some 47), none, .f (.mv (.t 46))⟩,
    .run ⟨(some 48), (some (47, false)), .f (.mv (.t 8))⟩,
    .run ⟨(some 49), (some (47, false)), .f (.mv (.t 5))⟩,
    .run ⟨(some 50), (some (47, false)), .f (.bin .geq (.t 48) (.t 49))⟩,
    .run ⟨(some 51), none, .f (.pick (.t 47) (.c (.bool true)) (.t 50))⟩])
   (.ite (.t 51)
   (.seq (.reg [] [.run ⟨(some 4), none, .f (.mv (.c (.bool false)))⟩])
   .ret)
   .skip))
   (.reg [] [.run ⟨(some 52), none, .f (.mv (.t 6))⟩,
    .run ⟨(some 53), none, .f (.mv (.t 8))⟩,
    .run ⟨(some 54), none, .f (.indexAddr 1 (.t 52) (.t 53))⟩,
    .run ⟨none, none, .e (.store 1 (.t 54) (.c (.bool true)))⟩])))
def l_l13_RingSpreads_0 : Cd := (.seq (.seq (.reg [] [.run ⟨(some 19), none, .f (.mv (.t 7))⟩,
    .run ⟨(some 20), none, .f (.bin .lss (.t 19) (.c (.int .i64 400)))⟩])
   (.ite (.t 20)
   .skip
   (.exit 0)))
   (.seq (.blk 1 k_l13_RingSpreads_0)
   (.reg [] [.run ⟨(some 21), none, .f (.mv (.t 7))⟩,
    .run ⟨(some 22), none, .f (.bin .add (.t 21) (.c (.int .i64 1)))⟩,
    .run ⟨(some 7), none, .f (.mv (.t 22))⟩])))
def l_l13_RingSpreads_1 : Cd := (.seq (.seq (.reg [] [.run ⟨(some 55), none, .f (.mv (.t 10))⟩,
    .run ⟨(some 56), none, .f (.mv (.t 5))⟩,
    .run ⟨(some 57), none, .f (.bin .lss (.t 55) (.t 56))⟩])
   (.ite (.t 57)
   .skip
   (.exit 2)))
   (.seq (.blk 3 (.seq (.reg [] [.run ⟨(some 60), none, .f (.mv (.t 6))⟩,
    .run ⟨(some 61), none, .f (.mv (.t 10))⟩,
    .run ⟨(some 62), none, .f (.indexAddr 1 (.t 60) (.t 61))⟩,
    .run ⟨(some 63), none, .f (.load false 1 (.t 62))⟩,
    .run ⟨(some 64), none, .f (.un .not (.t 63))⟩])
   (.ite (.t 64)
   (.seq (.reg [] [.run ⟨(some 4), none, .f (.mv (.c (.bool false)))⟩])
   .ret)
   .skip)))
   (.reg [] [.run ⟨(some 58), none, .f (.mv (.t 10))⟩,
    .run ⟨(some 59), none, .f (.bin .add (.t 58) (.c (.int .i64 1)))⟩,
    .run ⟨(some 10), none, .f (.mv (.t 59))⟩])))
def b_l13_RingSpreads : Cd := (.seq (.reg [] [.run ⟨(some 4), none, .f (.mv (.c (.bool false)))⟩])
   (.seq (.seq (.reg [] [.run ⟨(some 11), none, .e (.call 10 [])⟩,
    .run ⟨(some 12), none, .f (.un .not (.t 11))⟩])
   (.ite (.t 12)
   (.seq (.reg [] [.run ⟨(some 4), none, .f (.mv (.c (.bool false)))⟩])
   .ret)
   .skip))
   (.seq (.reg [] [.run ⟨(some 13), none, .f (.mv (.t 1))⟩,
    .run ⟨(some 14), none, .f (.conv (.int .i64) (.t 13))⟩,
    .run ⟨(some 15), none, .f (.bin .rem (.t 14) (.c (.int .i64 8)))⟩,
    .run ⟨(some 16), none, .f (.bin .add (.c (.int .i64 1)) (.t 15))⟩,
    .run ⟨(some 5), none, .f (.mv (.t 16))⟩])
   (.seq (.reg [] [.run ⟨(some 17), none, .f (.mv (.t 5))⟩,
    .run ⟨(some 18), none, .e (.makeSlice 1 1 true [(.bool false)] (.t 17) (.t 17))⟩,
    .run ⟨(some 6), none, .f (.mv (.t 18))⟩])
   (.seq (.seq (.reg [] [.run ⟨(some 7), none, .f (.mv (.c (.int .i64 0)))⟩])
   (.blk 0 (.loop l_l13_RingSpreads_0)))
   (.seq (.seq (.reg [] [.run ⟨(some 10), none, .f (.mv (.c (.int .i64 0)))⟩])
   (.blk 2 (.loop l_l13_RingSpreads_1)))
   (.seq (.reg [] [.run ⟨(some 4), none, .f (.mv (.c (.bool true)))⟩])
   .ret)))))))
theorem k_l13_RingSpreads : chkFn Tryd.prog n_l13_RingSpreads ⟨b_l13_RingSpreads, [.tmp 4], 65⟩ = true := by kernel_rfl
/-- fascine/fascinelaw13.awake -/
abbrev n_l13_awake : Nat := 10
def b_l13_awake : Cd := (.seq (.reg [] [.run ⟨(some 0), none, .f (.mv (.c (.bool false)))⟩])
   (.seq (.reg [] [.run ⟨(some 4), none, .e (.call 11 [(.c (.str (mkS [97]))), (.c (.int .i64 1))])⟩,
    .run ⟨(some 3), none, .f (.mv (.t 4))⟩,
    .run ⟨(some 5), none, .f (.extract (.t 3) 0)⟩,
    .run ⟨(some 6), none, .f (.extract (.t 3) 1)⟩,
    .run ⟨(some 1), none, .f (.mv (.t 5))⟩,
    .run ⟨(some 2), none, .f (.mv (.t 6))⟩])
   (.seq (.reg [] [.run ⟨(some 7), none, .f (.mv (.t 1))⟩,
    .run ⟨(some 8), none, .f (.bin .eql (.t 7) (.c (.int .i64 0)))⟩,
    .run ⟨(some 9), none, .f (.mv (.t 8))⟩,
    .run ⟨(some 10), (some (9, true)), .f (.mv (.t 2))⟩,
    .run ⟨(some 11), (some (9, true)), .f (.bin .eql (.t 10) (.c (.int .i64 0)))⟩,
    .run ⟨(some 12), none, .f (.pick (.t 9) (.t 11) (.c (.bool false)))⟩,
    .run ⟨(some 13), none, .f (.mv (.t 12))⟩,
    .run ⟨(some 14), none, .f (.pick (.t 13) (.c (.bool true)) (.c (.bool false)))⟩,
    .run ⟨(some 15), none, .f (.mv (.t 14))⟩,
    .run ⟨(some 16), (some (15, true)), .e (.call 13 [(.c (.str (mkS [97])))])⟩,
    .run ⟨(some 17), (some (15, true)), .e (.call 13 [(.c (.str (mkS [98])))])⟩,
    .run ⟨(some 18), (some (15, true)), .f (.bin .neq (.t 16) (.t 17))⟩,
    .run ⟨(some 19), none, .f (.pick (.t 15) (.t 18) (.c (.bool false)))⟩,
    .run ⟨(some 0), none, .f (.mv (.t 19))⟩])
   .ret)))
theorem k_l13_awake : chkFn Tryd.prog n_l13_awake ⟨b_l13_awake, [.tmp 0], 20⟩ = true := by kernel_rfl
/-- fascine/fascineref13.Hash -/
abbrev n_r13_Hash : Nat := 14
def l_r13_Hash_0 : Cd := (.seq (.seq (.reg [] [.run ⟨(some 5), none, .f (.mv (.t 4))⟩,
    .run ⟨(some 6), none, .f (.mv (.t 0))⟩,
    .run ⟨(some 7), none, .f (.len .str (.t 6))⟩,
    .run ⟨(some 8), none, .f (.bin .lss (.t 5) (.t 7))⟩])
   (.ite (.t 8)
   .skip
   (.exit 0)))
   (.seq (.blk 1 (.reg [] [.run ⟨(some 11), none, .f (.mv (.t 3))⟩,
    .run ⟨(some 12), none, .f (.mv (.t 0))⟩,
    .run ⟨(some 13), none, .f (.mv (.t 4))⟩,
    .run ⟨(some 14), none, .f (.indexS (.t 12) (.t 13))⟩,
    .run ⟨(some 15), none, .f (.conv (.int .u64) (.t 14))⟩,
    .run ⟨(some 16), none, .f (.bin .xor (.t 11) (.t 15))⟩,
    .run ⟨(some 17), none, .f (.bin .mul (.t 16) (.c (.int .u64 1099511628211)))⟩,
    .run ⟨(some 3), none, .f (.mv (.t 17))⟩]))
   (.reg [] [.run ⟨(some 9), none, .f (.mv (.t 4))⟩,
    .run ⟨(some 10), none, .f (.bin .add (.t 9) (.c (.int .i64 1)))⟩,
    .run ⟨(some 4), none, .f (.mv (.t 10))⟩])))
def s_r13_Hash_0 : Cd := (.seq (.reg [] [.run ⟨(some 18), none, .f (.mv (.t 3))⟩,
    .run ⟨(some 19), none, .f (.mv (.t 3))⟩,
    .run ⟨(some 20), none, .f (.bin .shr (.t 19) (.c (.int .u64 32)))⟩,
    .run ⟨(some 21), none, .f (.bin .xor (.t 18) (.t 20))⟩,
    .run ⟨(some 3), none, .f (.mv (.t 21))⟩])
   (.seq (.reg [] [.run ⟨(some 22), none, .f (.mv (.t 3))⟩,
    .run ⟨(some 23), none, .f (.bin .mul (.t 22) (.c (.int .u64 11400714819323198485)))⟩,
    .run ⟨(some 3), none, .f (.mv (.t 23))⟩])
   (.seq (.reg [] [.run ⟨(some 24), none, .f (.mv (.t 3))⟩,
    .run ⟨(some 25), none, .f (.mv (.t 3))⟩,
    .run ⟨(some 26), none, .f (.bin .shr (.t 25) (.c (.int .u64 29)))⟩,
    .run ⟨(some 27), none, .f (.bin .xor (.t 24) (.t 26))⟩,
    .run ⟨(some 2), none, .f (.mv (.t 27))⟩])
   .ret)))
def b_r13_Hash : Cd := (.seq (.reg [] [.run ⟨(some 2), none, .f (.mv (.c (.int .u64 0)))⟩])
   (.seq (.reg [] [.run ⟨(some 3), none, .f (.mv (.c (.int .u64 14695981039346656037)))⟩])
   (.seq (.seq (.reg [] [.run ⟨(some 4), none, .f (.mv (.c (.int .i64 0)))⟩])
   (.blk 0 (.loop l_r13_Hash_0)))
   s_r13_Hash_0)))
theorem k_r13_Hash : chkFn Tryd.prog n_r13_Hash ⟨b_r13_Hash, [.tmp 2], 28⟩ = true := by kernel_rfl
/-- fascine/fascineref13.Shard -/
abbrev n_r13_Shard : Nat := 12
def l_r13_Shard_0 : Cd := (.seq (.seq (.reg [] [.run ⟨(some 18), none, .f (.mv (.t 9))⟩,
    .run ⟨(some 19), none, .f (.bin .lss (.t 18) (.c (.int .i64 16)))⟩])
   (.ite (.t 19)
   .skip
   (.exit 2)))
   (.seq (.blk 3 (.seq (.reg [] [.run ⟨(some 22), none, .f (.mv (.t 8))⟩,
    .run ⟨(some 23), none, .e (.call 37 [(.t 22)])⟩,
    .run ⟨(some 24), none, .f (.bin .add (.c (.str (mkS [115, 104, 97, 114, 100, 45]))) (.t 23))⟩,
    .run ⟨(some 25), none, .f (.bin .add (.t 24) (.c (.str (mkS [45]))))⟩,
    .run ⟨(some 26), none, .f (.mv (.t 9))⟩,
    .run ⟨(some 27), none, .e (.call 37 [(.t 26)])⟩,
    .run ⟨(some 28), none, .f (.bin .add (.t 25) (.t 27))⟩,
    .run ⟨(some 29), none, .e (.call 14 [(.t 28)])⟩,
    .run ⟨(some 30), none, .f (.mv (.t 5))⟩,
    .run ⟨(some 31), none, .f (.bin .sub (.t 29) (.t 30))⟩,
    .run ⟨(some 10), none, .f (.mv (.t 31))⟩])
   (.seq (.reg [] [.run ⟨(some 32), none, .f (.mv (.t 6))⟩,
    .run ⟨(some 33), none, .f (.bin .lss (.t 32) (.c (.int .i64 0)))⟩,
    .run ⟨(some 34), none, .f (.mv (.t 33))⟩,
    .run ⟨(some 35), (some (34, false)), .f (.mv (.t 10))⟩,
    .run ⟨(some 36), (some (34, false)), .f (.mv (.t 7))⟩,
    .run ⟨(some 37), (some (34, false)), .f (.bin .lss (.t 35) (.t 36))⟩,
    .run ⟨(some 38), none, .f (.pick (.t 34) (.c (.bool true)) (.t 37))⟩])
   (.ite (.t 38)
   (.seq (.reg [] [.run ⟨(some 39), none, .f (.mv (.t 8))⟩,
    .run ⟨(some 6), none, .f (.mv (.t 39))⟩])
   (.reg [] [.run ⟨(some 40), none, .f (.mv (.t 10))⟩,
    .run ⟨(some 7), none, .f (.mv (.t 40))⟩]))
   .skip))))
   (.reg [] [.run ⟨(some 20), none, .f (.mv (.t 9))⟩,
    .run ⟨(some 21), none, .f (.bin .add (.t 20) (.c (.int .i64 1)))⟩,
    .run ⟨(some 9), none, .f (.mv (.t 21))⟩])))
def l_r13_Shard_1 : Cd := (.seq (.seq (.reg [] [.run ⟨(some 13), none, .f (.mv (.t 8))⟩,
    .run ⟨(some 14), none, .f (.mv (.t 1))⟩,
    .run ⟨(some 15), none, .f (.bin .lss (.t 13) (.t 14))⟩])
   (.ite (.t 15)
   .skip
   (.exit 0)))
   (.seq (.blk 1 (.seq (.reg [] [.run ⟨(some 9), none, .f (.mv (.c (.int .i64 0)))⟩])
   (.blk 2 (.loop l_r13_Shard_0))))
   (.reg [] [.run ⟨(some 16), none, .f (.mv (.t 8))⟩,
    .run ⟨(some 17), none, .f (.bin .add (.t 16) (.c (.int .i64 1)))⟩,
    .run ⟨(some 8), none, .f (.mv (.t 17))⟩])))
def b_r13_Shard : Cd := (.seq (.reg [] [.run ⟨(some 4), none, .f (.mv (.c (.int .i64 0)))⟩])
   (.seq (.reg [] [.run ⟨(some 11), none, .f (.mv (.t 0))⟩,
    .run ⟨(some 12), none, .e (.call 14 [(.t 11)])⟩,
    .run ⟨(some 5), none, .f (.mv (.t 12))⟩])
   (.seq (.reg [] [.run ⟨(some 6), none, .f (.mv (.c (.int .i64 (-1))))⟩])
   (.seq (.reg [] [.run ⟨(some 7), none, .f (.mv (.c (.int .u64 0)))⟩])
   (.seq (.seq (.reg [] [.run ⟨(some 8), none, .f (.mv (.c (.int .i64 0)))⟩])
   (.blk 0 (.loop l_r13_Shard_1)))
   (.seq (.reg [] [.run ⟨(some 41), none, .f (.mv (.t 6))⟩,
    .run ⟨(some 4), none, .f (.mv (.t 41))⟩])
   .ret))))))
theorem k_r13_Shard : chkFn Tryd.prog n_r13_Shard ⟨b_r13_Shard, [.tmp 4], 42⟩ = true := by kernel_rfl
/-- fascine/fascineref13.dec -/
abbrev n_r13_dec : Nat := 37
def b_r13_dec : Cd := (.seq (.reg [] [.run ⟨(some 2), none, .f (.mv (.c (.str (mkS []))))⟩])
   (.seq (.seq (.reg [] [.run ⟨(some 3), none, .f (.mv (.t 0))⟩,
    .run ⟨(some 4), none, .f (.bin .lss (.t 3) (.c (.int .i64 10)))⟩])
   (.ite (.t 4)
   (.seq (.reg [] [.run ⟨(some 5), none, .f (.mv (.t 0))⟩,
    .run ⟨(some 6), none, .f (.bin .add (.c (.int .i64 48)) (.t 5))⟩,
    .run ⟨(some 7), none, .f (.conv (.int .u8) (.t 6))⟩,
    .run ⟨(some 8), none, .e (.buildSlice 1 1 0 [(.int .u8 0)] [(0, 1, (.t 7))])⟩,
    .run ⟨(some 9), none, .f (.conv .bytesStr (.t 8))⟩,
    .run ⟨(some 2), none, .f (.mv (.t 9))⟩])
   .ret)
   .skip))
   (.seq (.reg [] [.run ⟨(some 10), none, .f (.mv (.t 0))⟩,
    .run ⟨(some 11), none, .f (.bin .quo (.t 10) (.c (.int .i64 10)))⟩,
    .run ⟨(some 12), none, .f (.bin .add (.c (.int .i64 48)) (.t 11))⟩,
    .run ⟨(some 13), none, .f (.conv (.int .u8) (.t 12))⟩,
    .run ⟨(some 14), none, .f (.mv (.t 0))⟩,
    .run ⟨(some 15), none, .f (.bin .rem (.t 14) (.c (.int .i64 10)))⟩,
    .run ⟨(some 16), none, .f (.bin .add (.c (.int .i64 48)) (.t 15))⟩,
    .run ⟨(some 17), none, .f (.conv (.int .u8) (.t 16))⟩,
    .run ⟨(some 18), none, .e (.buildSlice 2 1 0 [(.int .u8 0), (.int .u8 0)] [(0, 1, (.t 13)), (1, 1, (.t 17))])⟩,
    .run ⟨(some 19), none, .f (.conv .bytesStr (.t 18))⟩,
    .run ⟨(some 2), none, .f (.mv (.t 19))⟩])
   .ret)))
theorem k_r13_dec : chkFn Tryd.prog n_r13_dec ⟨b_r13_dec, [.tmp 2], 20⟩ = true := by kernel_rfl
/-- fascine/ring.Hash -/
abbrev n_ring_Hash : Nat := 13
def l_ring_Hash_0 : Cd := (.seq (.reg [] [.run ⟨(some 8), none, .f (.bin .lss (.t 7) (.t 6))⟩])
   (.seq (.ite (.t 8)
   .skip
   (.exit 0))
   (.seq (.blk 1 (.seq (.reg [] [.run ⟨(some 9), none, .f (.mv (.t 7))⟩,
    .run ⟨(some 4), none, .f (.mv (.t 9))⟩])
   (.seq (.reg [] [.run ⟨(some 10), none, .f (.mv (.t 3))⟩,
    .run ⟨(some 11), none, .f (.mv (.t 0))⟩,
    .run ⟨(some 12), none, .f (.mv (.t 4))⟩,
    .run ⟨(some 13), none, .f (.indexS (.t 11) (.t 12))⟩,
    .run ⟨(some 14), none, .f (.conv (.int .u64) (.t 13))⟩,
    .run ⟨(some 15), none, .f (.bin .xor (.t 10) (.t 14))⟩,
    .run ⟨(some 3), none, .f (.mv (.t 15))⟩])
   (.reg [] [.run ⟨(some 16), none, .f (.mv (.t 3))⟩,
    .run ⟨(some 17), none, .f (.bin .mul (.t 16) (.c (.int .u64 1099511628211)))⟩,
    .run ⟨(some 3), none, .f (.mv (.t 17))⟩]))))
   (.reg [] [.run ⟨(some 18), none, .f (.bin .add (.t 7) (.c (.int .i64 1)))⟩,
    .run ⟨(some 7), none, .f (.mv (.t 18))⟩]))))
def s_ring_Hash_0 : Cd := (.seq (.reg [] [.run ⟨(some 19), none, .f (.mv (.t 3))⟩,
    .run ⟨(some 20), none, .f (.mv (.t 3))⟩,
    .run ⟨(some 21), none, .f (.bin .shr (.t 20) (.c (.int .u64 32)))⟩,
    .run ⟨(some 22), none, .f (.bin .xor (.t 19) (.t 21))⟩,
    .run ⟨(some 3), none, .f (.mv (.t 22))⟩])
   (.seq (.reg [] [.run ⟨(some 23), none, .f (.mv (.t 3))⟩,
    .run ⟨(some 24), none, .f (.bin .mul (.t 23) (.c (.int .u64 11400714819323198485)))⟩,
    .run ⟨(some 3), none, .f (.mv (.t 24))⟩])
   (.seq (.reg [] [.run ⟨(some 25), none, .f (.mv (.t 3))⟩,
    .run ⟨(some 26), none, .f (.mv (.t 3))⟩,
    .run ⟨(some 27), none, .f (.bin .shr (.t 26) (.c (.int .u64 29)))⟩,
    .run ⟨(some 28), none, .f (.bin .xor (.t 25) (.t 27))⟩,
    .run ⟨(some 2), none, .f (.mv (.t 28))⟩])
   .ret)))
def b_ring_Hash : Cd := (.seq (.reg [] [.run ⟨(some 2), none, .f (.mv (.c (.int .u64 0)))⟩])
   (.seq (.reg [] [.run ⟨(some 3), none, .f (.mv (.c (.int .u64 14695981039346656037)))⟩])
   (.seq (.seq (.reg [] [.run ⟨(some 5), none, .f (.mv (.t 0))⟩,
    .run ⟨(some 6), none, .f (.len .str (.t 5))⟩,
    .run ⟨(some 7), none, .f (.mv (.c (.int .i64 0)))⟩])
   (.blk 0 (.loop l_ring_Hash_0)))
   s_ring_Hash_0)))
theorem k_ring_Hash : chkFn Tryd.prog n_ring_Hash ⟨b_ring_Hash, [.tmp 2], 29⟩ = true := by kernel_rfl
/-- fascine/ring.Shard -/
abbrev n_ring_Shard : Nat := 11
def r_ring_Shard_0 : Cd := (.seq (.blk 3 (.seq (.reg [] [.run ⟨(some 24), none, .f (.mv (.t 22))⟩,
    .run ⟨(some 8), none, .f (.mv (.t 24))⟩])
   (.reg [] [.run ⟨(some 25), none, .f (.mv (.t 6))⟩,
    .run ⟨(some 26), none, .f (.mv (.t 7))⟩,
    .run ⟨(some 27), none, .e (.call 34 [(.t 26)])⟩,
    .run ⟨(some 28), none, .f (.bin .add (.c (.str (mkS [115, 104, 97, 114, 100, 45]))) (.t 27))⟩,
    .run ⟨(some 29), none, .f (.bin .add (.t 28) (.c (.str (mkS [45]))))⟩,
    .run ⟨(some 30), none, .f (.mv (.t 8))⟩,
    .run ⟨(some 31), none, .e (.call 34 [(.t 30)])⟩,
    .run ⟨(some 32), none, .f (.bin .add (.t 29) (.t 31))⟩,
    .run ⟨(some 33), none, .e (.call 13 [(.t 32)])⟩,
    .run ⟨(some 34), none, .f (.mv (.t 7))⟩,
    .run ⟨(some 35), none, .f (.build [(.int .u64 0), (.int .i64 0)] [(0, 1, (.t 33)), (1, 1, (.t 34))])⟩,
    .run ⟨(some 36), none, .e (.buildSlice 1 2 0 [(.int .u64 0), (.int .i64 0)] [(0, 2, (.t 35))])⟩,
    .run ⟨(some 37), none, .e (.append 2 16 true (.t 25) (.t 36))⟩,
    .run ⟨(some 6), none, .f (.mv (.t 37))⟩])))
   (.reg [] [.run ⟨(some 38), none, .f (.bin .add (.t 22) (.c (.int .i64 1)))⟩,
    .run ⟨(some 22), none, .f (.mv (.t 38))⟩]))
def l_ring_Shard_0 : Cd := (.seq (.reg [] [.run ⟨(some 23), none, .f (.bin .lss (.t 22) (.c (.int .i64 16)))⟩])
   (.seq (.ite (.t 23)
   .skip
   (.exit 2))
   r_ring_Shard_0))
def l_ring_Shard_1 : Cd := (.seq (.reg [] [.run ⟨(some 20), none, .f (.bin .lss (.t 19) (.t 18))⟩])
   (.seq (.ite (.t 20)
   .skip
   (.exit 0))
   (.seq (.blk 1 (.seq (.reg [] [.run ⟨(some 21), none, .f (.mv (.t 19))⟩,
    .run ⟨(some 7), none, .f (.mv (.t 21))⟩])
   (.seq (.reg [] [.run ⟨(some 22), none, .f (.mv (.c (.int .i64 0)))⟩])
   (.blk 2 (.loop l_ring_Shard_0)))))
   (.reg [] [.run ⟨(some 39), none, .f (.bin .add (.t 19) (.c (.int .i64 1)))⟩,
    .run ⟨(some 19), none, .f (.mv (.t 39))⟩]))))
def r_ring_Shard_1 : Cd := (.seq (.blk 5 (.seq (.reg [] [.run ⟨(some 48), none, .f (.indexAddr 2 (.t 44) (.t 46))⟩,
    .run ⟨(some 49), none, .f (.load true 2 (.t 48))⟩,
    .run ⟨(some 11), none, .e (.alloc [(.int .u64 0), (.int .i64 0)])⟩,
    .run ⟨none, none, .e (.store 2 (.t 11) (.t 49))⟩])
   (.seq (.reg [] [.run ⟨(some 50), none, .f (.fieldAddr 0 (.t 11))⟩,
    .run ⟨(some 51), none, .f (.load false 1 (.t 50))⟩,
    .run ⟨(some 52), none, .f (.mv (.t 9))⟩,
    .run ⟨(some 53), none, .f (.bin .geq (.t 51) (.t 52))⟩])
   (.ite (.t 53)
   (.seq (.reg [] [.run ⟨(some 54), none, .f (.fieldAddr 1 (.t 11))⟩,
    .run ⟨(some 55), none, .f (.load false 1 (.t 54))⟩,
    .run ⟨(some 4), none, .f (.mv (.t 55))⟩,
    .run ⟨(some 5), none, .f (.mv (.c (.int .i64 0)))⟩])
   .ret)
   .skip))))
   (.reg [] [.run ⟨(some 56), none, .f (.bin .add (.t 46) (.c (.int .i64 1)))⟩,
    .run ⟨(some 46), none, .f (.mv (.t 56))⟩]))
def l_ring_Shard_2 : Cd := (.seq (.reg [] [.run ⟨(some 47), none, .f (.bin .lss (.t 46) (.t 45))⟩])
   (.seq (.ite (.t 47)
   .skip
   (.exit 4))
   r_ring_Shard_1))
def s_ring_Shard_0 : Cd := (.seq (.reg [] [.run ⟨(some 40), none, .f (.mv (.t 6))⟩,
    .run ⟨(some 41), none, .e (.call 35 [(.t 40), (.c (.func 36 [] []))])⟩])
   (.seq (.reg [] [.run ⟨(some 42), none, .f (.mv (.t 0))⟩,
    .run ⟨(some 43), none, .e (.call 13 [(.t 42)])⟩,
    .run ⟨(some 9), none, .f (.mv (.t 43))⟩])
   (.seq (.seq (.reg [] [.run ⟨(some 44), none, .f (.mv (.t 6))⟩,
    .run ⟨(some 45), none, .f (.len .sl (.t 44))⟩,
    .run ⟨(some 46), none, .f (.mv (.c (.int .i64 0)))⟩])
   (.blk 4 (.loop l_ring_Shard_2)))
   (.seq (.reg [] [.run ⟨(some 57), none, .f (.mv (.t 6))⟩,
    .run ⟨(some 58), none, .f (.indexAddr 2 (.t 57) (.c (.int .i64 0)))⟩,
    .run ⟨(some 59), none, .f (.fieldAddr 1 (.t 58))⟩,
    .run ⟨(some 60), none, .f (.load false 1 (.t 59))⟩,
    .run ⟨(some 4), none, .f (.mv (.t 60))⟩,
    .run ⟨(some 5), none, .f (.mv (.c (.int .i64 0)))⟩])
   .ret))))
def b_ring_Shard : Cd := (.seq (.reg [] [.run ⟨(some 4), none, .f (.mv (.c (.int .i64 0)))⟩,
    .run ⟨(some 5), none, .f (.mv (.c (.int .i64 0)))⟩])
   (.seq (.seq (.reg [] [.run ⟨(some 12), none, .f (.mv (.t 1))⟩,
    .run ⟨(some 13), none, .f (.bin .lss (.t 12) (.c (.int .i64 1)))⟩,
    .run ⟨(some 14), none, .f (.mv (.t 13))⟩,
    .run ⟨(some 15), (some (14, false)), .f (.mv (.t 1))⟩,
    .run ⟨(some 16), (some (14, false)), .f (.bin .gtr (.t 15) (.c (.int .i64 8)))⟩,
    .run ⟨(some 17), none, .f (.pick (.t 14) (.c (.bool true)) (.t 16))⟩])
   (.ite (.t 17)
   (.seq (.reg [] [.run ⟨(some 4), none, .f (.mv (.c (.int .i64 0)))⟩,
    .run ⟨(some 5), none, .f (.mv (.c (.int .i64 1)))⟩])
   .ret)
   .skip))
   (.seq (.reg [] [.run ⟨(some 6), none, .f (.mv (.c (.sl [] 0 2 .nil)))⟩])
   (.seq (.seq (.reg [] [.run ⟨(some 18), none, .f (.mv (.t 1))⟩,
    .run ⟨(some 19), none, .f (.mv (.c (.int .i64 0)))⟩])
   (.blk 0 (.loop l_ring_Shard_1)))
   s_ring_Shard_0))))
theorem k_ring_Shard : chkFn Tryd.prog n_ring_Shard ⟨b_ring_Shard, [.tmp 4, .tmp 5], 61⟩ = true := by kernel_rfl
/-- fascine/ring.Shard$1 -/
abbrev n_ring_Shard_1 : Nat := 36
def b_ring_Shard_1 : Cd := (.seq (.reg [] [.run ⟨(some 2), none, .e (.box (.t 0))⟩,
    .run ⟨(some 3), none, .e (.box (.t 1))⟩,
    .run ⟨(some 4), none, .f (.mv (.c (.int .i64 0)))⟩])
   (.seq (.blk 0 (.seq (.reg [] [.run ⟨(some 6), none, .f (.fieldAddr 0 (.t 2))⟩,
    .run ⟨(some 7), none, .f (.load false 1 (.t 6))⟩,
    .run ⟨(some 8), none, .f (.fieldAddr 0 (.t 3))⟩,
    .run ⟨(some 9), none, .f (.load false 1 (.t 8))⟩,
    .run ⟨(some 10), none, .f (.bin .lss (.t 7) (.t 9))⟩,
    .run ⟨(some 5), none, .f (.mv (.t 10))⟩])
   (.ite (.t 5)
   (.seq (.reg [] [.run ⟨(some 4), none, .f (.mv (.c (.int .i64 (-1))))⟩])
   .ret)
   (.seq (.reg [] [.run ⟨(some 12), none, .f (.fieldAddr 0 (.t 2))⟩,
    .run ⟨(some 13), none, .f (.load false 1 (.t 12))⟩,
    .run ⟨(some 14), none, .f (.fieldAddr 0 (.t 3))⟩,
    .run ⟨(some 15), none, .f (.load false 1 (.t 14))⟩,
    .run ⟨(some 16), none, .f (.bin .gtr (.t 13) (.t 15))⟩,
    .run ⟨(some 11), none, .f (.mv (.t 16))⟩])
   (.ite (.t 11)
   (.seq (.reg [] [.run ⟨(some 4), none, .f (.mv (.c (.int .i64 1)))⟩])
   .ret)
   .skip)))))
   (.seq (.reg [] [.run ⟨(some 17), none, .f (.fieldAddr 1 (.t 2))⟩,
    .run ⟨(some 18), none, .f (.load false 1 (.t 17))⟩,
    .run ⟨(some 19), none, .f (.fieldAddr 1 (.t 3))⟩,
    .run ⟨(some 20), none, .f (.load false 1 (.t 19))⟩,
    .run ⟨(some 21), none, .f (.bin .sub (.t 18) (.t 20))⟩,
    .run ⟨(some 4), none, .f (.mv (.t 21))⟩])
   .ret)))
theorem k_ring_Shard_1 : chkFn Tryd.prog n_ring_Shard_1 ⟨b_ring_Shard_1, [.tmp 4], 22⟩ = true := by kernel_rfl
/-- strconv.Itoa -/
abbrev n_strconv_Itoa : Nat := 34
def b_strconv_Itoa : Cd := (.seq (.reg [] [.run ⟨(some 2), none, .f (.mv (.c (.str (mkS []))))⟩])
   (.seq (.reg [] [.run ⟨(some 3), none, .f (.mv (.t 0))⟩,
    .run ⟨(some 4), none, .e (.call 67 [(.t 3)])⟩,
    .run ⟨(some 2), none, .f (.mv (.t 4))⟩])
   .ret))
theorem k_strconv_Itoa : chkFn Tryd.prog n_strconv_Itoa ⟨b_strconv_Itoa, [.tmp 2], 5⟩ = true := by kernel_rfl
end Go.VM
