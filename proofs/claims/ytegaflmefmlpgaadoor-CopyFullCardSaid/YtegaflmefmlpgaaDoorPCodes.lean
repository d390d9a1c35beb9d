/-
  The codes of functions, as the value machine has them, and that they stand for the model's (printed by a program, wip/gen).
-/
import Derived.Test.YtegaflmefmlpgaaDoorDCodes
import Derived.Test.YtegaflmefmlpgaaDoorProg
import Derived.KernelRfl
set_option linter.unusedVariables false
set_option maxRecDepth 100000
namespace Go.VM
open Go Go.Proofs

/-- fascine/pack.Frame -/
abbrev n_pack_Frame : Nat := 75
def b_pack_Frame : Cd := (.seq (.reg [] [.run ⟨(some 2), none, .f (.mv (.c (.sl [] 0 1 .nil)))⟩,
    .run ⟨(some 3), none, .f (.mv (.c (.int .i64 0)))⟩])
   (.seq (.seq (.reg [] [.run ⟨(some 5), none, .f (.mv (.t 0))⟩,
    .run ⟨(some 6), none, .f (.len .sl (.t 5))⟩,
    .run ⟨(some 7), none, .f (.bin .gtr (.t 6) (.c (.int .i64 65535)))⟩])
   (.ite (.t 7)
   (.seq (.reg [] [.run ⟨(some 2), none, .f (.mv (.c (.sl [] 0 1 .nil)))⟩,
    .run ⟨(some 3), none, .f (.mv (.c (.int .i64 2)))⟩])
   .ret)
   .skip))
   (.seq (.reg [] [.run ⟨(some 8), none, .e (.buildSlice 1 1 0 [(.int .u8 0)] [(0, 1, (.c (.int .u8 241)))])⟩,
    .run ⟨(some 9), none, .f (.mv (.t 0))⟩,
    .run ⟨(some 10), none, .f (.len .sl (.t 9))⟩,
    .run ⟨(some 11), none, .f (.conv (.int .u64) (.t 10))⟩,
    .run ⟨(some 12), none, .e (.call 39 [(.t 11)])⟩,
    .run ⟨(some 13), none, .e (.append 1 1 false (.t 8) (.t 12))⟩,
    .run ⟨(some 4), none, .f (.mv (.t 13))⟩])
   (.seq (.reg [] [.run ⟨(some 14), none, .f (.mv (.t 4))⟩,
    .run ⟨(some 15), none, .f (.mv (.t 0))⟩,
    .run ⟨(some 16), none, .e (.call 98 [(.t 15)])⟩,
    .run ⟨(some 17), none, .e (.call 97 [(.t 16)])⟩,
    .run ⟨(some 18), none, .e (.append 1 1 false (.t 14) (.t 17))⟩,
    .run ⟨(some 4), none, .f (.mv (.t 18))⟩])
   (.seq (.reg [] [.run ⟨(some 19), none, .f (.mv (.t 4))⟩,
    .run ⟨(some 20), none, .f (.mv (.t 0))⟩,
    .run ⟨(some 21), none, .e (.append 1 1 false (.t 19) (.t 20))⟩,
    .run ⟨(some 4), none, .f (.mv (.t 21))⟩])
   (.seq (.reg [] [.run ⟨(some 22), none, .f (.mv (.t 4))⟩,
    .run ⟨(some 23), none, .e (.buildSlice 1 1 0 [(.int .u8 0)] [(0, 1, (.c (.int .u8 31)))])⟩,
    .run ⟨(some 24), none, .e (.append 1 1 false (.t 22) (.t 23))⟩,
    .run ⟨(some 2), none, .f (.mv (.t 24))⟩,
    .run ⟨(some 3), none, .f (.mv (.c (.int .i64 0)))⟩])
   .ret))))))
theorem k_pack_Frame : chkFn Tryd.prog n_pack_Frame ⟨b_pack_Frame, [.tmp 2, .tmp 3], 25⟩ = true := by kernel_rfl
/-- fascine/pack.ReadFrame -/
abbrev n_pack_ReadFrame : Nat := 94
def b_pack_ReadFrame : Cd := (.seq (.reg [] [.run ⟨(some 4), none, .f (.mv (.c (.sl [] 0 1 .nil)))⟩,
    .run ⟨(some 5), none, .f (.mv (.c (.int .i64 0)))⟩,
    .run ⟨(some 6), none, .f (.mv (.c (.int .i64 0)))⟩])
   (.seq (.seq (.reg [] [.run ⟨(some 11), none, .f (.mv (.t 1))⟩,
    .run ⟨(some 12), none, .f (.bin .lss (.t 11) (.c (.int .i64 0)))⟩,
    .run ⟨(some 13), none, .f (.mv (.t 12))⟩,
    .run ⟨(some 14), (some (13, false)), .f (.mv (.t 1))⟩,
    .run ⟨(some 15), (some (13, false)), .f (.mv (.t 0))⟩,
    .run ⟨(some 16), (some (13, false)), .f (.len .sl (.t 15))⟩,
    .run ⟨(some 17), (some (13, false)), .f (.bin .gtr (.t 14) (.t 16))⟩,
    .run ⟨(some 18), none, .f (.pick (.t 13) (.c (.bool true)) (.t 17))⟩])
   (.ite (.t 18)
   (.seq (.reg [] [.run ⟨(some 4), none, .f (.mv (.c (.sl [] 0 1 .nil)))⟩,
    .run ⟨(some 5), none, .f (.mv (.c (.int .i64 0)))⟩,
    .run ⟨(some 6), none, .f (.mv (.c (.int .i64 1)))⟩])
   .ret)
   .skip))
   (.seq (.seq (.reg [] [.run ⟨(some 19), none, .f (.mv (.t 1))⟩,
    .run ⟨(some 20), none, .f (.mv (.t 0))⟩,
    .run ⟨(some 21), none, .f (.len .sl (.t 20))⟩,
    .run ⟨(some 22), none, .f (.bin .eql (.t 19) (.t 21))⟩])
   (.ite (.t 22)
   (.seq (.reg [] [.run ⟨(some 4), none, .f (.mv (.c (.sl [] 0 1 .nil)))⟩,
    .run ⟨(some 5), none, .f (.mv (.c (.int .i64 0)))⟩,
    .run ⟨(some 6), none, .f (.mv (.c (.int .i64 8)))⟩])
   .ret)
   .skip))
   (.seq (.reg [] [.run ⟨(some 24), none, .f (.mv (.t 0))⟩,
    .run ⟨(some 25), none, .f (.mv (.t 1))⟩,
    .run ⟨(some 26), none, .f (.bin .add (.t 25) (.c (.int .i64 1)))⟩,
    .run ⟨(some 27), none, .e (.call 43 [(.t 24), (.t 26)])⟩,
    .run ⟨(some 23), none, .f (.mv (.t 27))⟩,
    .run ⟨(some 28), none, .f (.extract (.t 23) 0)⟩,
    .run ⟨(some 29), none, .f (.extract (.t 23) 1)⟩,
    .run ⟨(some 30), none, .f (.extract (.t 23) 2)⟩,
    .run ⟨(some 7), none, .f (.mv (.t 28))⟩,
    .run ⟨(some 8), none, .f (.mv (.t 29))⟩,
    .run ⟨(some 9), none, .f (.mv (.t 30))⟩])
   (.seq (.seq (.reg [] [.run ⟨(some 31), none, .f (.mv (.t 0))⟩,
    .run ⟨(some 32), none, .f (.mv (.t 1))⟩,
    .run ⟨(some 33), none, .f (.indexAddr 1 (.t 31) (.t 32))⟩,
    .run ⟨(some 34), none, .f (.load false 1 (.t 33))⟩,
    .run ⟨(some 35), none, .f (.bin .neq (.t 34) (.c (.int .u8 241)))⟩,
    .run ⟨(some 36), none, .f (.mv (.t 35))⟩,
    .run ⟨(some 37), (some (36, false)), .f (.mv (.t 9))⟩,
    .run ⟨(some 38), (some (36, false)), .f (.bin .neq (.t 37) (.c (.int .i64 0)))⟩,
    .run ⟨(some 39), none, .f (.pick (.t 36) (.c (.bool true)) (.t 38))⟩,
    .run ⟨(some 40), none, .f (.mv (.t 39))⟩,
    .run ⟨(some 41), (some (40, false)), .f (.mv (.t 7))⟩,
    .run ⟨(some 42), (some (40, false)), .f (.bin .gtr (.t 41) (.c (.int .u64 65535)))⟩,
    .run ⟨(some 43), none, .f (.pick (.t 40) (.c (.bool true)) (.t 42))⟩,
    .run ⟨(some 44), none, .f (.mv (.t 43))⟩,
    .run ⟨(some 45), (some (44, false)), .f (.mv (.t 7))⟩,
    .run ⟨(some 46), (some (44, false)), .f (.conv (.int .i64) (.t 45))⟩,
    .run ⟨(some 47), (some (44, false)), .f (.mv (.t 0))⟩,
    .run ⟨(some 48), (some (44, false)), .f (.len .sl (.t 47))⟩,
    .run ⟨(some 49), (some (44, false)), .f (.mv (.t 8))⟩,
    .run ⟨(some 50), (some (44, false)), .f (.bin .sub (.t 48) (.t 49))⟩,
    .run ⟨(some 51), (some (44, false)), .f (.bin .sub (.t 50) (.c (.int .i64 5)))⟩,
    .run ⟨(some 52), (some (44, false)), .f (.bin .gtr (.t 46) (.t 51))⟩,
    .run ⟨(some 53), none, .f (.pick (.t 44) (.c (.bool true)) (.t 52))⟩,
    .run ⟨(some 54), none, .f (.mv (.t 53))⟩,
    .run ⟨(some 55), (some (54, false)), .f (.mv (.t 0))⟩,
    .run ⟨(some 56), (some (54, false)), .f (.mv (.t 8))⟩,
    .run ⟨(some 57), (some (54, false)), .f (.bin .add (.t 56) (.c (.int .i64 4)))⟩,
    .run ⟨(some 58), (some (54, false)), .f (.mv (.t 7))⟩,
    .run ⟨(some 59), (some (54, false)), .f (.conv (.int .i64) (.t 58))⟩,
    .run ⟨(some 60), (some (54, false)), .f (.bin .add (.t 57) (.t 59))⟩,
    .run ⟨(some 61), (some (54, false)), .f (.indexAddr 1 (.t 55) (.t 60))⟩,
    .run ⟨(some 62), (some (54, false)), .f (.load false 1 (.t 61))⟩,
    .run ⟨(some 63), (some (54, false)), .f (.bin .neq (.t 62) (.c (.int .u8 31)))⟩,
    .run ⟨(some 64), none, .f (.pick (.t 54) (.c (.bool true)) (.t 63))⟩])
   (.ite (.t 64)
   (.seq (.reg [] [.run ⟨(some 4), none, .f (.mv (.c (.sl [] 0 1 .nil)))⟩,
    .run ⟨(some 5), none, .f (.mv (.c (.int .i64 0)))⟩,
    .run ⟨(some 6), none, .f (.mv (.c (.int .i64 3)))⟩])
   .ret)
   .skip))
   (.seq (.reg [] [.run ⟨(some 65), none, .f (.mv (.t 0))⟩,
    .run ⟨(some 66), none, .f (.mv (.t 8))⟩,
    .run ⟨(some 67), none, .f (.bin .add (.t 66) (.c (.int .i64 4)))⟩,
    .run ⟨(some 68), none, .f (.mv (.t 8))⟩,
    .run ⟨(some 69), none, .f (.bin .add (.t 68) (.c (.int .i64 4)))⟩,
    .run ⟨(some 70), none, .f (.mv (.t 7))⟩,
    .run ⟨(some 71), none, .f (.conv (.int .i64) (.t 70))⟩,
    .run ⟨(some 72), none, .f (.bin .add (.t 69) (.t 71))⟩,
    .run ⟨(some 73), none, .f (.slice 1 (.t 65) (some (.t 67)) (some (.t 72)) none)⟩,
    .run ⟨(some 74), none, .e (.append 1 1 false (.c (.sl [] 0 1 .nil)) (.t 73))⟩,
    .run ⟨(some 10), none, .f (.mv (.t 74))⟩])
   (.seq (.seq (.reg [0, 1, 2, 3, 4, 5, 6, 7, 5, 8, 5, 9, 10] [.run ⟨(some 75), none, .f (.mv (.t 0))⟩,
    .run ⟨(some 76), none, .f (.mv (.t 8))⟩,
    .run ⟨(some 77), none, .f (.mv (.t 8))⟩,
    .run ⟨(some 78), none, .f (.bin .add (.t 77) (.c (.int .i64 4)))⟩,
    .run ⟨(some 79), none, .f (.slice 1 (.t 75) (some (.t 76)) (some (.t 78)) none)⟩,
    .run ⟨(some 80), none, .f (.conv .bytesStr (.t 79))⟩,
    .run ⟨(some 81), none, .f (.mv (.t 10))⟩,
    .run ⟨(some 82), none, .e (.call 98 [(.t 81)])⟩,
    .chk 80 none (.conv .bytesStr (.t 79)),
    .run ⟨(some 83), none, .e (.call 97 [(.t 82)])⟩,
    .chk 80 none (.conv .bytesStr (.t 79)),
    .run ⟨(some 84), none, .f (.conv .bytesStr (.t 83))⟩,
    .run ⟨(some 85), none, .f (.bin .neq (.t 80) (.t 84))⟩])
   (.ite (.t 85)
   (.seq (.reg [] [.run ⟨(some 4), none, .f (.mv (.c (.sl [] 0 1 .nil)))⟩,
    .run ⟨(some 5), none, .f (.mv (.c (.int .i64 0)))⟩,
    .run ⟨(some 6), none, .f (.mv (.c (.int .i64 5)))⟩])
   .ret)
   .skip))
   (.seq (.reg [] [.run ⟨(some 86), none, .f (.mv (.t 10))⟩,
    .run ⟨(some 87), none, .f (.mv (.t 8))⟩,
    .run ⟨(some 88), none, .f (.bin .add (.t 87) (.c (.int .i64 5)))⟩,
    .run ⟨(some 89), none, .f (.mv (.t 7))⟩,
    .run ⟨(some 90), none, .f (.conv (.int .i64) (.t 89))⟩,
    .run ⟨(some 91), none, .f (.bin .add (.t 88) (.t 90))⟩,
    .run ⟨(some 4), none, .f (.mv (.t 86))⟩,
    .run ⟨(some 5), none, .f (.mv (.t 91))⟩,
    .run ⟨(some 6), none, .f (.mv (.c (.int .i64 0)))⟩])
   .ret))))))))
theorem k_pack_ReadFrame : chkFn Tryd.prog n_pack_ReadFrame ⟨b_pack_ReadFrame, [.tmp 4, .tmp 5, .tmp 6], 92⟩ = true := by kernel_rfl
/-- fascine/pack.ReadText -/
abbrev n_pack_ReadText : Nat := 45
def k_pack_ReadText_0 : Cd := (.seq (.reg [] [.run ⟨(some 20), none, .f (.mv (.t 11))⟩,
    .run ⟨(some 21), none, .f (.bin .neq (.t 20) (.c (.int .i64 0)))⟩,
    .run ⟨(some 19), none, .f (.mv (.t 21))⟩])
   (.ite (.t 19)
   (.seq (.reg [] [.run ⟨(some 22), none, .f (.mv (.t 11))⟩,
    .run ⟨(some 6), none, .f (.mv (.c (.str (mkS []))))⟩,
    .run ⟨(some 7), none, .f (.mv (.c (.int .i64 0)))⟩,
    .run ⟨(some 8), none, .f (.mv (.t 22))⟩])
   .ret)
   (.seq (.reg [] [.run ⟨(some 24), none, .f (.mv (.t 9))⟩,
    .run ⟨(some 25), none, .f (.mv (.t 0))⟩,
    .run ⟨(some 26), none, .f (.len .sl (.t 25))⟩,
    .run ⟨(some 27), none, .f (.mv (.t 10))⟩,
    .run ⟨(some 28), none, .f (.bin .sub (.t 26) (.t 27))⟩,
    .run ⟨(some 29), none, .f (.conv (.int .u64) (.t 28))⟩,
    .run ⟨(some 30), none, .f (.bin .gtr (.t 24) (.t 29))⟩,
    .run ⟨(some 23), none, .f (.mv (.t 30))⟩])
   (.ite (.t 23)
   (.seq (.reg [] [.run ⟨(some 6), none, .f (.mv (.c (.str (mkS []))))⟩,
    .run ⟨(some 7), none, .f (.mv (.c (.int .i64 0)))⟩,
    .run ⟨(some 8), none, .f (.mv (.c (.int .i64 3)))⟩])
   .ret)
   (.seq (.reg [] [.run ⟨(some 32), none, .f (.mv (.t 2))⟩,
    .run ⟨(some 33), none, .f (.bin .lss (.t 32) (.c (.int .i64 0)))⟩,
    .run ⟨(some 34), none, .f (.mv (.t 33))⟩,
    .run ⟨(some 35), (some (34, false)), .f (.mv (.t 9))⟩,
    .run ⟨(some 36), (some (34, false)), .f (.mv (.t 2))⟩,
    .run ⟨(some 37), (some (34, false)), .f (.conv (.int .u64) (.t 36))⟩,
    .run ⟨(some 38), (some (34, false)), .f (.bin .gtr (.t 35) (.t 37))⟩,
    .run ⟨(some 39), none, .f (.pick (.t 34) (.c (.bool true)) (.t 38))⟩,
    .run ⟨(some 31), none, .f (.mv (.t 39))⟩])
   (.ite (.t 31)
   (.seq (.reg [] [.run ⟨(some 6), none, .f (.mv (.c (.str (mkS []))))⟩,
    .run ⟨(some 7), none, .f (.mv (.c (.int .i64 0)))⟩,
    .run ⟨(some 8), none, .f (.mv (.c (.int .i64 2)))⟩])
   .ret)
   .skip))))))
def s_pack_ReadText_0 : Cd := (.seq (.reg [] [.run ⟨(some 40), none, .f (.mv (.t 0))⟩,
    .run ⟨(some 41), none, .f (.mv (.t 10))⟩,
    .run ⟨(some 42), none, .f (.mv (.t 10))⟩,
    .run ⟨(some 43), none, .f (.mv (.t 9))⟩,
    .run ⟨(some 44), none, .f (.conv (.int .i64) (.t 43))⟩,
    .run ⟨(some 45), none, .f (.bin .add (.t 42) (.t 44))⟩,
    .run ⟨(some 46), none, .f (.slice 1 (.t 40) (some (.t 41)) (some (.t 45)) none)⟩,
    .run ⟨(some 47), none, .f (.conv .bytesStr (.t 46))⟩,
    .run ⟨(some 48), none, .f (.mv (.t 10))⟩,
    .run ⟨(some 49), none, .f (.mv (.t 9))⟩,
    .run ⟨(some 50), none, .f (.conv (.int .i64) (.t 49))⟩,
    .run ⟨(some 51), none, .f (.bin .add (.t 48) (.t 50))⟩,
    .run ⟨(some 6), none, .f (.mv (.t 47))⟩,
    .run ⟨(some 7), none, .f (.mv (.t 51))⟩,
    .run ⟨(some 8), none, .f (.mv (.c (.int .i64 0)))⟩])
   .ret)
def b_pack_ReadText : Cd := (.seq (.reg [] [.run ⟨(some 6), none, .f (.mv (.c (.str (mkS []))))⟩,
    .run ⟨(some 7), none, .f (.mv (.c (.int .i64 0)))⟩,
    .run ⟨(some 8), none, .f (.mv (.c (.int .i64 0)))⟩])
   (.seq (.reg [] [.run ⟨(some 13), none, .f (.mv (.t 0))⟩,
    .run ⟨(some 14), none, .f (.mv (.t 1))⟩,
    .run ⟨(some 15), none, .e (.call 43 [(.t 13), (.t 14)])⟩,
    .run ⟨(some 12), none, .f (.mv (.t 15))⟩,
    .run ⟨(some 16), none, .f (.extract (.t 12) 0)⟩,
    .run ⟨(some 17), none, .f (.extract (.t 12) 1)⟩,
    .run ⟨(some 18), none, .f (.extract (.t 12) 2)⟩,
    .run ⟨(some 9), none, .f (.mv (.t 16))⟩,
    .run ⟨(some 10), none, .f (.mv (.t 17))⟩,
    .run ⟨(some 11), none, .f (.mv (.t 18))⟩])
   (.seq (.blk 0 k_pack_ReadText_0)
   s_pack_ReadText_0)))
theorem k_pack_ReadText : chkFn Tryd.prog n_pack_ReadText ⟨b_pack_ReadText, [.tmp 6, .tmp 7, .tmp 8], 52⟩ = true := by kernel_rfl
/-- fascine/pack.ReadUvarint -/
abbrev n_pack_ReadUvarint : Nat := 43
def k_pack_ReadUvarint_0 : Cd := (.seq (.reg [] [.run ⟨(some 26), none, .f (.mv (.t 8))⟩,
    .run ⟨(some 27), none, .f (.mv (.t 1))⟩,
    .run ⟨(some 28), none, .f (.bin .sub (.t 26) (.t 27))⟩,
    .run ⟨(some 9), none, .f (.mv (.t 28))⟩])
   (.seq (.reg [] [.run ⟨(some 29), none, .f (.mv (.t 0))⟩,
    .run ⟨(some 30), none, .f (.mv (.t 8))⟩,
    .run ⟨(some 31), none, .f (.indexAddr 1 (.t 29) (.t 30))⟩,
    .run ⟨(some 32), none, .f (.load false 1 (.t 31))⟩,
    .run ⟨(some 10), none, .f (.mv (.t 32))⟩])
   (.seq (.seq (.reg [] [.run ⟨(some 33), none, .f (.mv (.t 9))⟩,
    .run ⟨(some 34), none, .f (.bin .eql (.t 33) (.c (.int .i64 9)))⟩,
    .run ⟨(some 35), none, .f (.mv (.t 34))⟩,
    .run ⟨(some 36), (some (35, true)), .f (.mv (.t 10))⟩,
    .run ⟨(some 37), (some (35, true)), .f (.bin .gtr (.t 36) (.c (.int .u8 1)))⟩,
    .run ⟨(some 38), none, .f (.pick (.t 35) (.t 37) (.c (.bool false)))⟩,
    .run ⟨(some 39), none, .f (.mv (.t 38))⟩,
    .run ⟨(some 40), (some (39, false)), .f (.mv (.t 10))⟩,
    .run ⟨(some 41), (some (39, false)), .f (.bin .eql (.t 40) (.c (.int .u8 0)))⟩,
    .run ⟨(some 42), (some (39, false)), .f (.mv (.t 41))⟩,
    .run ⟨(some 43), (some (42, true)), .f (.mv (.t 9))⟩,
    .run ⟨(some 44), (some (42, true)), .f (.bin .gtr (.t 43) (.c (.int .i64 0)))⟩,
    .run ⟨(some 45), (some (39, false)), .f (.pick (.t 42) (.t 44) (.c (.bool false)))⟩,
    .run ⟨(some 46), none, .f (.pick (.t 39) (.c (.bool true)) (.t 45))⟩])
   (.ite (.t 46)
   (.seq (.reg [] [.run ⟨(some 4), none, .f (.mv (.c (.int .u64 0)))⟩,
    .run ⟨(some 5), none, .f (.mv (.c (.int .i64 0)))⟩,
    .run ⟨(some 6), none, .f (.mv (.c (.int .i64 3)))⟩])
   .ret)
   .skip))
   (.seq (.reg [] [.run ⟨(some 47), none, .f (.mv (.t 7))⟩,
    .run ⟨(some 48), none, .f (.mv (.t 10))⟩,
    .run ⟨(some 49), none, .f (.bin .and (.t 48) (.c (.int .u8 127)))⟩,
    .run ⟨(some 50), none, .f (.conv (.int .u64) (.t 49))⟩,
    .run ⟨(some 51), none, .f (.mv (.t 9))⟩,
    .run ⟨(some 52), none, .f (.bin .mul (.c (.int .i64 7)) (.t 51))⟩,
    .run ⟨(some 53), none, .f (.bin .shl (.t 50) (.t 52))⟩,
    .run ⟨(some 54), none, .f (.bin .or (.t 47) (.t 53))⟩,
    .run ⟨(some 7), none, .f (.mv (.t 54))⟩])
   (.seq (.reg [] [.run ⟨(some 55), none, .f (.mv (.t 10))⟩,
    .run ⟨(some 56), none, .f (.bin .lss (.t 55) (.c (.int .u8 128)))⟩])
   (.ite (.t 56)
   (.seq (.reg [] [.run ⟨(some 57), none, .f (.mv (.t 7))⟩,
    .run ⟨(some 58), none, .f (.mv (.t 8))⟩,
    .run ⟨(some 59), none, .f (.bin .add (.t 58) (.c (.int .i64 1)))⟩,
    .run ⟨(some 4), none, .f (.mv (.t 57))⟩,
    .run ⟨(some 5), none, .f (.mv (.t 59))⟩,
    .run ⟨(some 6), none, .f (.mv (.c (.int .i64 0)))⟩])
   .ret)
   .skip))))))
def l_pack_ReadUvarint_0 : Cd := (.seq (.seq (.reg [] [.run ⟨(some 20), none, .f (.mv (.t 8))⟩,
    .run ⟨(some 21), none, .f (.mv (.t 0))⟩,
    .run ⟨(some 22), none, .f (.len .sl (.t 21))⟩,
    .run ⟨(some 23), none, .f (.bin .lss (.t 20) (.t 22))⟩])
   (.ite (.t 23)
   .skip
   (.exit 0)))
   (.seq (.blk 1 k_pack_ReadUvarint_0)
   (.reg [] [.run ⟨(some 24), none, .f (.mv (.t 8))⟩,
    .run ⟨(some 25), none, .f (.bin .add (.t 24) (.c (.int .i64 1)))⟩,
    .run ⟨(some 8), none, .f (.mv (.t 25))⟩])))
def b_pack_ReadUvarint : Cd := (.seq (.reg [] [.run ⟨(some 4), none, .f (.mv (.c (.int .u64 0)))⟩,
    .run ⟨(some 5), none, .f (.mv (.c (.int .i64 0)))⟩,
    .run ⟨(some 6), none, .f (.mv (.c (.int .i64 0)))⟩])
   (.seq (.seq (.reg [] [.run ⟨(some 11), none, .f (.mv (.t 1))⟩,
    .run ⟨(some 12), none, .f (.bin .lss (.t 11) (.c (.int .i64 0)))⟩,
    .run ⟨(some 13), none, .f (.mv (.t 12))⟩,
    .run ⟨(some 14), (some (13, false)), .f (.mv (.t 1))⟩,
    .run ⟨(some 15), (some (13, false)), .f (.mv (.t 0))⟩,
    .run ⟨(some 16), (some (13, false)), .f (.len .sl (.t 15))⟩,
    .run ⟨(some 17), (some (13, false)), .f (.bin .gtr (.t 14) (.t 16))⟩,
    .run ⟨(some 18), none, .f (.pick (.t 13) (.c (.bool true)) (.t 17))⟩])
   (.ite (.t 18)
   (.seq (.reg [] [.run ⟨(some 4), none, .f (.mv (.c (.int .u64 0)))⟩,
    .run ⟨(some 5), none, .f (.mv (.c (.int .i64 0)))⟩,
    .run ⟨(some 6), none, .f (.mv (.c (.int .i64 1)))⟩])
   .ret)
   .skip))
   (.seq (.reg [] [.run ⟨(some 7), none, .f (.mv (.c (.int .u64 0)))⟩])
   (.seq (.seq (.reg [] [.run ⟨(some 19), none, .f (.mv (.t 1))⟩,
    .run ⟨(some 8), none, .f (.mv (.t 19))⟩])
   (.blk 0 (.loop l_pack_ReadUvarint_0)))
   (.seq (.reg [] [.run ⟨(some 4), none, .f (.mv (.c (.int .u64 0)))⟩,
    .run ⟨(some 5), none, .f (.mv (.c (.int .i64 0)))⟩,
    .run ⟨(some 6), none, .f (.mv (.c (.int .i64 3)))⟩])
   .ret)))))
theorem k_pack_ReadUvarint : chkFn Tryd.prog n_pack_ReadUvarint ⟨b_pack_ReadUvarint, [.tmp 4, .tmp 5, .tmp 6], 60⟩ = true := by kernel_rfl
/-- fascine/pack.Sum -/
abbrev n_pack_Sum : Nat := 98
def l_pack_Sum_0 : Cd := (.seq (.reg [] [.run ⟨(some 17), none, .f (.bin .lss (.t 16) (.c (.int .i64 8)))⟩])
   (.seq (.ite (.t 17)
   .skip
   (.exit 2))
   (.seq (.blk 3 (.seq (.reg [] [.run ⟨(some 18), none, .f (.mv (.t 3))⟩,
    .run ⟨(some 19), none, .f (.bin .and (.t 18) (.c (.int .u32 1)))⟩,
    .run ⟨(some 20), none, .f (.bin .eql (.t 19) (.c (.int .u32 1)))⟩])
   (.ite (.t 20)
   (.reg [] [.run ⟨(some 21), none, .f (.mv (.t 3))⟩,
    .run ⟨(some 22), none, .f (.bin .shr (.t 21) (.c (.int .u64 1)))⟩,
    .run ⟨(some 23), none, .f (.bin .xor (.t 22) (.c (.int .u32 3988292384)))⟩,
    .run ⟨(some 3), none, .f (.mv (.t 23))⟩])
   (.reg [] [.run ⟨(some 24), none, .f (.mv (.t 3))⟩,
    .run ⟨(some 25), none, .f (.bin .shr (.t 24) (.c (.int .u64 1)))⟩,
    .run ⟨(some 3), none, .f (.mv (.t 25))⟩]))))
   (.reg [] [.run ⟨(some 26), none, .f (.bin .add (.t 16) (.c (.int .i64 1)))⟩,
    .run ⟨(some 16), none, .f (.mv (.t 26))⟩]))))
def l_pack_Sum_1 : Cd := (.seq (.reg [] [.run ⟨(some 9), none, .f (.bin .lss (.t 8) (.t 7))⟩])
   (.seq (.ite (.t 9)
   .skip
   (.exit 0))
   (.seq (.blk 1 (.seq (.reg [] [.run ⟨(some 10), none, .f (.indexAddr 1 (.t 6) (.t 8))⟩,
    .run ⟨(some 11), none, .f (.load false 1 (.t 10))⟩,
    .run ⟨(some 5), none, .f (.mv (.t 11))⟩])
   (.seq (.reg [] [.run ⟨(some 12), none, .f (.mv (.t 3))⟩,
    .run ⟨(some 13), none, .f (.mv (.t 5))⟩,
    .run ⟨(some 14), none, .f (.conv (.int .u32) (.t 13))⟩,
    .run ⟨(some 15), none, .f (.bin .xor (.t 12) (.t 14))⟩,
    .run ⟨(some 3), none, .f (.mv (.t 15))⟩])
   (.seq (.reg [] [.run ⟨(some 16), none, .f (.mv (.c (.int .i64 0)))⟩])
   (.blk 2 (.loop l_pack_Sum_0))))))
   (.reg [] [.run ⟨(some 27), none, .f (.bin .add (.t 8) (.c (.int .i64 1)))⟩,
    .run ⟨(some 8), none, .f (.mv (.t 27))⟩]))))
def b_pack_Sum : Cd := (.seq (.reg [] [.run ⟨(some 2), none, .f (.mv (.c (.int .u32 0)))⟩])
   (.seq (.reg [] [.run ⟨(some 3), none, .f (.mv (.c (.int .u32 4294967295)))⟩])
   (.seq (.seq (.reg [] [.run ⟨(some 6), none, .f (.mv (.t 0))⟩,
    .run ⟨(some 7), none, .f (.len .sl (.t 6))⟩,
    .run ⟨(some 8), none, .f (.mv (.c (.int .i64 0)))⟩])
   (.blk 0 (.loop l_pack_Sum_1)))
   (.seq (.reg [] [.run ⟨(some 28), none, .f (.mv (.t 3))⟩,
    .run ⟨(some 29), none, .f (.un .xor (.t 28))⟩,
    .run ⟨(some 2), none, .f (.mv (.t 29))⟩])
   .ret))))
theorem k_pack_Sum : chkFn Tryd.prog n_pack_Sum ⟨b_pack_Sum, [.tmp 2], 30⟩ = true := by kernel_rfl
/-- fascine/pack.Text -/
abbrev n_pack_Text : Nat := 40
def b_pack_Text : Cd := (.seq (.reg [] [.run ⟨(some 2), none, .f (.mv (.c (.sl [] 0 1 .nil)))⟩])
   (.seq (.reg [] [.run ⟨(some 3), none, .f (.mv (.t 0))⟩,
    .run ⟨(some 4), none, .f (.len .str (.t 3))⟩,
    .run ⟨(some 5), none, .f (.conv (.int .u64) (.t 4))⟩,
    .run ⟨(some 6), none, .e (.call 39 [(.t 5)])⟩,
    .run ⟨(some 7), none, .f (.mv (.t 0))⟩,
    .run ⟨(some 8), none, .e (.append 1 1 false (.t 6) (.t 7))⟩,
    .run ⟨(some 2), none, .f (.mv (.t 8))⟩])
   .ret))
theorem k_pack_Text : chkFn Tryd.prog n_pack_Text ⟨b_pack_Text, [.tmp 2], 9⟩ = true := by kernel_rfl
/-- fascine/pack.Uvarint -/
abbrev n_pack_Uvarint : Nat := 39
def l_pack_Uvarint_0 : Cd := (.seq (.seq (.reg [] [.run ⟨(some 4), none, .f (.mv (.t 0))⟩,
    .run ⟨(some 5), none, .f (.bin .geq (.t 4) (.c (.int .u64 128)))⟩])
   (.ite (.t 5)
   .skip
   (.exit 0)))
   (.seq (.blk 1 (.reg [] [.run ⟨(some 8), none, .f (.mv (.t 3))⟩,
    .run ⟨(some 9), none, .f (.mv (.t 0))⟩,
    .run ⟨(some 10), none, .f (.conv (.int .u8) (.t 9))⟩,
    .run ⟨(some 11), none, .f (.bin .or (.t 10) (.c (.int .u8 128)))⟩,
    .run ⟨(some 12), none, .e (.buildSlice 1 1 0 [(.int .u8 0)] [(0, 1, (.t 11))])⟩,
    .run ⟨(some 13), none, .e (.append 1 1 false (.t 8) (.t 12))⟩,
    .run ⟨(some 3), none, .f (.mv (.t 13))⟩]))
   (.reg [] [.run ⟨(some 6), none, .f (.mv (.t 0))⟩,
    .run ⟨(some 7), none, .f (.bin .shr (.t 6) (.c (.int .u64 7)))⟩,
    .run ⟨(some 0), none, .f (.mv (.t 7))⟩])))
def b_pack_Uvarint : Cd := (.seq (.reg [] [.run ⟨(some 2), none, .f (.mv (.c (.sl [] 0 1 .nil)))⟩])
   (.seq (.reg [] [.run ⟨(some 3), none, .f (.mv (.c (.sl [] 0 1 .nil)))⟩])
   (.seq (.blk 0 (.loop l_pack_Uvarint_0))
   (.seq (.reg [] [.run ⟨(some 14), none, .f (.mv (.t 3))⟩,
    .run ⟨(some 15), none, .f (.mv (.t 0))⟩,
    .run ⟨(some 16), none, .f (.conv (.int .u8) (.t 15))⟩,
    .run ⟨(some 17), none, .e (.buildSlice 1 1 0 [(.int .u8 0)] [(0, 1, (.t 16))])⟩,
    .run ⟨(some 18), none, .e (.append 1 1 false (.t 14) (.t 17))⟩,
    .run ⟨(some 2), none, .f (.mv (.t 18))⟩])
   .ret))))
theorem k_pack_Uvarint : chkFn Tryd.prog n_pack_Uvarint ⟨b_pack_Uvarint, [.tmp 2], 19⟩ = true := by kernel_rfl
/-- fascine/pack.Zag -/
abbrev n_pack_Zag : Nat := 46
def b_pack_Zag : Cd := (.seq (.reg [] [.run ⟨(some 2), none, .f (.mv (.c (.int .i64 0)))⟩])
   (.seq (.reg [] [.run ⟨(some 3), none, .f (.mv (.t 0))⟩,
    .run ⟨(some 4), none, .f (.bin .shr (.t 3) (.c (.int .u64 1)))⟩,
    .run ⟨(some 5), none, .f (.conv (.int .i64) (.t 4))⟩,
    .run ⟨(some 6), none, .f (.mv (.t 0))⟩,
    .run ⟨(some 7), none, .f (.bin .and (.t 6) (.c (.int .u64 1)))⟩,
    .run ⟨(some 8), none, .f (.conv (.int .i64) (.t 7))⟩,
    .run ⟨(some 9), none, .f (.un .neg (.t 8))⟩,
    .run ⟨(some 10), none, .f (.bin .xor (.t 5) (.t 9))⟩,
    .run ⟨(some 2), none, .f (.mv (.t 10))⟩])
   .ret))
theorem k_pack_Zag : chkFn Tryd.prog n_pack_Zag ⟨b_pack_Zag, [.tmp 2], 11⟩ = true := by kernel_rfl
/-- fascine/pack.Zig -/
abbrev n_pack_Zig : Nat := 41
def b_pack_Zig : Cd := (.seq (.reg [] [.run ⟨(some 2), none, .f (.mv (.c (.int .u64 0)))⟩])
   (.seq (.reg [] [.run ⟨(some 3), none, .f (.mv (.t 0))⟩,
    .run ⟨(some 4), none, .f (.conv (.int .u64) (.t 3))⟩,
    .run ⟨(some 5), none, .f (.bin .shl (.t 4) (.c (.int .u64 1)))⟩,
    .run ⟨(some 6), none, .f (.mv (.t 0))⟩,
    .run ⟨(some 7), none, .f (.bin .shr (.t 6) (.c (.int .u64 63)))⟩,
    .run ⟨(some 8), none, .f (.conv (.int .u64) (.t 7))⟩,
    .run ⟨(some 9), none, .f (.bin .xor (.t 5) (.t 8))⟩,
    .run ⟨(some 2), none, .f (.mv (.t 9))⟩])
   .ret))
theorem k_pack_Zig : chkFn Tryd.prog n_pack_Zig ⟨b_pack_Zig, [.tmp 2], 10⟩ = true := by kernel_rfl
/-- fascine/pack.four -/
abbrev n_pack_four : Nat := 97
def b_pack_four : Cd := (.seq (.reg [] [.run ⟨(some 2), none, .f (.mv (.c (.sl [] 0 1 .nil)))⟩])
   (.seq (.reg [] [.run ⟨(some 3), none, .f (.mv (.t 0))⟩,
    .run ⟨(some 4), none, .f (.bin .shr (.t 3) (.c (.int .u64 24)))⟩,
    .run ⟨(some 5), none, .f (.conv (.int .u8) (.t 4))⟩,
    .run ⟨(some 6), none, .f (.mv (.t 0))⟩,
    .run ⟨(some 7), none, .f (.bin .shr (.t 6) (.c (.int .u64 16)))⟩,
    .run ⟨(some 8), none, .f (.conv (.int .u8) (.t 7))⟩,
    .run ⟨(some 9), none, .f (.mv (.t 0))⟩,
    .run ⟨(some 10), none, .f (.bin .shr (.t 9) (.c (.int .u64 8)))⟩,
    .run ⟨(some 11), none, .f (.conv (.int .u8) (.t 10))⟩,
    .run ⟨(some 12), none, .f (.mv (.t 0))⟩,
    .run ⟨(some 13), none, .f (.conv (.int .u8) (.t 12))⟩,
    .run ⟨(some 14), none, .e (.buildSlice 4 1 0 [(.int .u8 0), (.int .u8 0), (.int .u8 0), (.int .u8 0)] [(0, 1, (.t 5)), (1, 1, (.t 8)), (2, 1, (.t 11)), (3, 1, (.t 13))])⟩,
    .run ⟨(some 2), none, .f (.mv (.t 14))⟩])
   .ret))
theorem k_pack_four : chkFn Tryd.prog n_pack_four ⟨b_pack_four, [.tmp 2], 15⟩ = true := by kernel_rfl
/-- fascine/fascineref01.ReadText -/
abbrev n_r01_ReadText : Nat := 51
def b_r01_ReadText : Cd := (.seq (.reg [] [.run ⟨(some 6), none, .f (.mv (.c (.str (mkS []))))⟩,
    .run ⟨(some 7), none, .f (.mv (.c (.int .i64 0)))⟩,
    .run ⟨(some 8), none, .f (.mv (.c (.int .i64 0)))⟩])
   (.seq (.reg [] [.run ⟨(some 13), none, .f (.mv (.t 0))⟩,
    .run ⟨(some 14), none, .f (.mv (.t 1))⟩,
    .run ⟨(some 15), none, .e (.call 50 [(.t 13), (.t 14)])⟩,
    .run ⟨(some 12), none, .f (.mv (.t 15))⟩,
    .run ⟨(some 16), none, .f (.extract (.t 12) 0)⟩,
    .run ⟨(some 17), none, .f (.extract (.t 12) 1)⟩,
    .run ⟨(some 18), none, .f (.extract (.t 12) 2)⟩,
    .run ⟨(some 9), none, .f (.mv (.t 16))⟩,
    .run ⟨(some 10), none, .f (.mv (.t 17))⟩,
    .run ⟨(some 11), none, .f (.mv (.t 18))⟩])
   (.seq (.seq (.reg [] [.run ⟨(some 19), none, .f (.mv (.t 11))⟩,
    .run ⟨(some 20), none, .f (.bin .neq (.t 19) (.c (.int .i64 0)))⟩])
   (.ite (.t 20)
   (.seq (.reg [] [.run ⟨(some 21), none, .f (.mv (.t 11))⟩,
    .run ⟨(some 6), none, .f (.mv (.c (.str (mkS []))))⟩,
    .run ⟨(some 7), none, .f (.mv (.c (.int .i64 0)))⟩,
    .run ⟨(some 8), none, .f (.mv (.t 21))⟩])
   .ret)
   .skip))
   (.seq (.seq (.reg [] [.run ⟨(some 22), none, .f (.mv (.t 9))⟩,
    .run ⟨(some 23), none, .f (.mv (.t 0))⟩,
    .run ⟨(some 24), none, .f (.len .sl (.t 23))⟩,
    .run ⟨(some 25), none, .f (.mv (.t 10))⟩,
    .run ⟨(some 26), none, .f (.bin .sub (.t 24) (.t 25))⟩,
    .run ⟨(some 27), none, .f (.conv (.int .u64) (.t 26))⟩,
    .run ⟨(some 28), none, .f (.bin .gtr (.t 22) (.t 27))⟩])
   (.ite (.t 28)
   (.seq (.reg [] [.run ⟨(some 6), none, .f (.mv (.c (.str (mkS []))))⟩,
    .run ⟨(some 7), none, .f (.mv (.c (.int .i64 0)))⟩,
    .run ⟨(some 8), none, .f (.mv (.c (.int .i64 3)))⟩])
   .ret)
   .skip))
   (.seq (.seq (.reg [] [.run ⟨(some 29), none, .f (.mv (.t 2))⟩,
    .run ⟨(some 30), none, .f (.bin .lss (.t 29) (.c (.int .i64 0)))⟩,
    .run ⟨(some 31), none, .f (.mv (.t 30))⟩,
    .run ⟨(some 32), (some (31, false)), .f (.mv (.t 9))⟩,
    .run ⟨(some 33), (some (31, false)), .f (.mv (.t 2))⟩,
    .run ⟨(some 34), (some (31, false)), .f (.conv (.int .u64) (.t 33))⟩,
    .run ⟨(some 35), (some (31, false)), .f (.bin .gtr (.t 32) (.t 34))⟩,
    .run ⟨(some 36), none, .f (.pick (.t 31) (.c (.bool true)) (.t 35))⟩])
   (.ite (.t 36)
   (.seq (.reg [] [.run ⟨(some 6), none, .f (.mv (.c (.str (mkS []))))⟩,
    .run ⟨(some 7), none, .f (.mv (.c (.int .i64 0)))⟩,
    .run ⟨(some 8), none, .f (.mv (.c (.int .i64 2)))⟩])
   .ret)
   .skip))
   (.seq (.reg [] [.run ⟨(some 37), none, .f (.mv (.t 0))⟩,
    .run ⟨(some 38), none, .f (.mv (.t 10))⟩,
    .run ⟨(some 39), none, .f (.mv (.t 10))⟩,
    .run ⟨(some 40), none, .f (.mv (.t 9))⟩,
    .run ⟨(some 41), none, .f (.conv (.int .i64) (.t 40))⟩,
    .run ⟨(some 42), none, .f (.bin .add (.t 39) (.t 41))⟩,
    .run ⟨(some 43), none, .f (.slice 1 (.t 37) (some (.t 38)) (some (.t 42)) none)⟩,
    .run ⟨(some 44), none, .f (.conv .bytesStr (.t 43))⟩,
    .run ⟨(some 45), none, .f (.mv (.t 10))⟩,
    .run ⟨(some 46), none, .f (.mv (.t 9))⟩,
    .run ⟨(some 47), none, .f (.conv (.int .i64) (.t 46))⟩,
    .run ⟨(some 48), none, .f (.bin .add (.t 45) (.t 47))⟩,
    .run ⟨(some 6), none, .f (.mv (.t 44))⟩,
    .run ⟨(some 7), none, .f (.mv (.t 48))⟩,
    .run ⟨(some 8), none, .f (.mv (.c (.int .i64 0)))⟩])
   .ret))))))
theorem k_r01_ReadText : chkFn Tryd.prog n_r01_ReadText ⟨b_r01_ReadText, [.tmp 6, .tmp 7, .tmp 8], 49⟩ = true := by kernel_rfl
/-- fascine/fascineref01.ReadUvarint -/
abbrev n_r01_ReadUvarint : Nat := 50
def l_r01_ReadUvarint_0 : Cd := (.seq (.seq (.reg [] [.run ⟨(some 19), none, .f (.mv (.t 7))⟩,
    .run ⟨(some 20), none, .f (.bin .lss (.t 19) (.c (.int .i64 10)))⟩,
    .run ⟨(some 21), none, .f (.mv (.t 20))⟩,
    .run ⟨(some 22), (some (21, true)), .f (.mv (.t 7))⟩,
    .run ⟨(some 23), (some (21, true)), .f (.mv (.t 0))⟩,
    .run ⟨(some 24), (some (21, true)), .f (.len .sl (.t 23))⟩,
    .run ⟨(some 25), (some (21, true)), .f (.mv (.t 1))⟩,
    .run ⟨(some 26), (some (21, true)), .f (.bin .sub (.t 24) (.t 25))⟩,
    .run ⟨(some 27), (some (21, true)), .f (.bin .lss (.t 22) (.t 26))⟩,
    .run ⟨(some 28), none, .f (.pick (.t 21) (.t 27) (.c (.bool false)))⟩,
    .run ⟨(some 29), none, .f (.mv (.t 28))⟩,
    .run ⟨(some 30), (some (29, true)), .f (.mv (.t 0))⟩,
    .run ⟨(some 31), (some (29, true)), .f (.mv (.t 1))⟩,
    .run ⟨(some 32), (some (29, true)), .f (.mv (.t 7))⟩,
    .run ⟨(some 33), (some (29, true)), .f (.bin .add (.t 31) (.t 32))⟩,
    .run ⟨(some 34), (some (29, true)), .f (.indexAddr 1 (.t 30) (.t 33))⟩,
    .run ⟨(some 35), (some (29, true)), .f (.load false 1 (.t 34))⟩,
    .run ⟨(some 36), (some (29, true)), .f (.bin .geq (.t 35) (.c (.int .u8 128)))⟩,
    .run ⟨(some 37), none, .f (.pick (.t 29) (.t 36) (.c (.bool false)))⟩])
   (.ite (.t 37)
   .skip
   (.exit 0)))
   (.blk 1 (.reg [] [.run ⟨(some 38), none, .f (.mv (.t 7))⟩,
    .run ⟨(some 39), none, .f (.bin .add (.t 38) (.c (.int .i64 1)))⟩,
    .run ⟨(some 7), none, .f (.mv (.t 39))⟩])))
def l_r01_ReadUvarint_1 : Cd := (.seq (.seq (.reg [] [.run ⟨(some 51), none, .f (.mv (.t 9))⟩,
    .run ⟨(some 52), none, .f (.bin .geq (.t 51) (.c (.int .i64 0)))⟩])
   (.ite (.t 52)
   .skip
   (.exit 2)))
   (.seq (.blk 3 (.reg [] [.run ⟨(some 55), none, .f (.mv (.t 8))⟩,
    .run ⟨(some 56), none, .f (.bin .mul (.t 55) (.c (.int .u64 128)))⟩,
    .run ⟨(some 57), none, .f (.mv (.t 0))⟩,
    .run ⟨(some 58), none, .f (.mv (.t 1))⟩,
    .run ⟨(some 59), none, .f (.mv (.t 9))⟩,
    .run ⟨(some 60), none, .f (.bin .add (.t 58) (.t 59))⟩,
    .run ⟨(some 61), none, .f (.indexAddr 1 (.t 57) (.t 60))⟩,
    .run ⟨(some 62), none, .f (.load false 1 (.t 61))⟩,
    .run ⟨(some 63), none, .f (.bin .rem (.t 62) (.c (.int .u8 128)))⟩,
    .run ⟨(some 64), none, .f (.conv (.int .u64) (.t 63))⟩,
    .run ⟨(some 65), none, .f (.bin .add (.t 56) (.t 64))⟩,
    .run ⟨(some 8), none, .f (.mv (.t 65))⟩]))
   (.reg [] [.run ⟨(some 53), none, .f (.mv (.t 9))⟩,
    .run ⟨(some 54), none, .f (.bin .sub (.t 53) (.c (.int .i64 1)))⟩,
    .run ⟨(some 9), none, .f (.mv (.t 54))⟩])))
def s_r01_ReadUvarint_0 : Cd := (.seq (.reg [] [.run ⟨(some 66), none, .f (.mv (.t 8))⟩,
    .run ⟨(some 67), none, .e (.call 47 [(.t 66)])⟩,
    .run ⟨(some 10), none, .f (.mv (.t 67))⟩])
   (.seq (.seq (.reg [0, 1, 2, 3, 4, 5, 6, 7, 8, 9, 10] [.run ⟨(some 68), none, .f (.mv (.t 10))⟩,
    .run ⟨(some 69), none, .f (.conv .bytesStr (.t 68))⟩,
    .run ⟨(some 70), none, .f (.mv (.t 0))⟩,
    .run ⟨(some 71), none, .f (.mv (.t 1))⟩,
    .run ⟨(some 72), none, .f (.mv (.t 1))⟩,
    .run ⟨(some 73), none, .f (.mv (.t 7))⟩,
    .run ⟨(some 74), none, .f (.bin .add (.t 72) (.t 73))⟩,
    .run ⟨(some 75), none, .f (.bin .add (.t 74) (.c (.int .i64 1)))⟩,
    .run ⟨(some 76), none, .f (.slice 1 (.t 70) (some (.t 71)) (some (.t 75)) none)⟩,
    .run ⟨(some 77), none, .f (.conv .bytesStr (.t 76))⟩,
    .run ⟨(some 78), none, .f (.bin .neq (.t 69) (.t 77))⟩])
   (.ite (.t 78)
   (.seq (.reg [] [.run ⟨(some 4), none, .f (.mv (.c (.int .u64 0)))⟩,
    .run ⟨(some 5), none, .f (.mv (.c (.int .i64 0)))⟩,
    .run ⟨(some 6), none, .f (.mv (.c (.int .i64 3)))⟩])
   .ret)
   .skip))
   (.seq (.reg [] [.run ⟨(some 79), none, .f (.mv (.t 8))⟩,
    .run ⟨(some 80), none, .f (.mv (.t 1))⟩,
    .run ⟨(some 81), none, .f (.mv (.t 7))⟩,
    .run ⟨(some 82), none, .f (.bin .add (.t 80) (.t 81))⟩,
    .run ⟨(some 83), none, .f (.bin .add (.t 82) (.c (.int .i64 1)))⟩,
    .run ⟨(some 4), none, .f (.mv (.t 79))⟩,
    .run ⟨(some 5), none, .f (.mv (.t 83))⟩,
    .run ⟨(some 6), none, .f (.mv (.c (.int .i64 0)))⟩])
   .ret)))
def s_r01_ReadUvarint_1 : Cd := (.seq (.seq (.reg [] [.run ⟨(some 40), none, .f (.mv (.t 7))⟩,
    .run ⟨(some 41), none, .f (.bin .geq (.t 40) (.c (.int .i64 10)))⟩,
    .run ⟨(some 42), none, .f (.mv (.t 41))⟩,
    .run ⟨(some 43), (some (42, false)), .f (.mv (.t 7))⟩,
    .run ⟨(some 44), (some (42, false)), .f (.mv (.t 0))⟩,
    .run ⟨(some 45), (some (42, false)), .f (.len .sl (.t 44))⟩,
    .run ⟨(some 46), (some (42, false)), .f (.mv (.t 1))⟩,
    .run ⟨(some 47), (some (42, false)), .f (.bin .sub (.t 45) (.t 46))⟩,
    .run ⟨(some 48), (some (42, false)), .f (.bin .geq (.t 43) (.t 47))⟩,
    .run ⟨(some 49), none, .f (.pick (.t 42) (.c (.bool true)) (.t 48))⟩])
   (.ite (.t 49)
   (.seq (.reg [] [.run ⟨(some 4), none, .f (.mv (.c (.int .u64 0)))⟩,
    .run ⟨(some 5), none, .f (.mv (.c (.int .i64 0)))⟩,
    .run ⟨(some 6), none, .f (.mv (.c (.int .i64 3)))⟩])
   .ret)
   .skip))
   (.seq (.reg [] [.run ⟨(some 8), none, .f (.mv (.c (.int .u64 0)))⟩])
   (.seq (.seq (.reg [] [.run ⟨(some 50), none, .f (.mv (.t 7))⟩,
    .run ⟨(some 9), none, .f (.mv (.t 50))⟩])
   (.blk 2 (.loop l_r01_ReadUvarint_1)))
   s_r01_ReadUvarint_0)))
def b_r01_ReadUvarint : Cd := (.seq (.reg [] [.run ⟨(some 4), none, .f (.mv (.c (.int .u64 0)))⟩,
    .run ⟨(some 5), none, .f (.mv (.c (.int .i64 0)))⟩,
    .run ⟨(some 6), none, .f (.mv (.c (.int .i64 0)))⟩])
   (.seq (.seq (.reg [] [.run ⟨(some 11), none, .f (.mv (.t 1))⟩,
    .run ⟨(some 12), none, .f (.bin .lss (.t 11) (.c (.int .i64 0)))⟩,
    .run ⟨(some 13), none, .f (.mv (.t 12))⟩,
    .run ⟨(some 14), (some (13, false)), .f (.mv (.t 1))⟩,
    .run ⟨(some 15), (some (13, false)), .f (.mv (.t 0))⟩,
    .run ⟨(some 16), (some (13, false)), .f (.len .sl (.t 15))⟩,
    .run ⟨(some 17), (some (13, false)), .f (.bin .gtr (.t 14) (.t 16))⟩,
    .run ⟨(some 18), none, .f (.pick (.t 13) (.c (.bool true)) (.t 17))⟩])
   (.ite (.t 18)
   (.seq (.reg [] [.run ⟨(some 4), none, .f (.mv (.c (.int .u64 0)))⟩,
    .run ⟨(some 5), none, .f (.mv (.c (.int .i64 0)))⟩,
    .run ⟨(some 6), none, .f (.mv (.c (.int .i64 1)))⟩])
   .ret)
   .skip))
   (.seq (.reg [] [.run ⟨(some 7), none, .f (.mv (.c (.int .i64 0)))⟩])
   (.seq (.blk 0 (.loop l_r01_ReadUvarint_0))
   s_r01_ReadUvarint_1))))
theorem k_r01_ReadUvarint : chkFn Tryd.prog n_r01_ReadUvarint ⟨b_r01_ReadUvarint, [.tmp 4, .tmp 5, .tmp 6], 84⟩ = true := by kernel_rfl
/-- fascine/fascineref01.Text -/
abbrev n_r01_Text : Nat := 48
def b_r01_Text : Cd := (.seq (.reg [] [.run ⟨(some 2), none, .f (.mv (.c (.sl [] 0 1 .nil)))⟩])
   (.seq (.reg [] [.run ⟨(some 4), none, .f (.mv (.t 0))⟩,
    .run ⟨(some 5), none, .f (.len .str (.t 4))⟩,
    .run ⟨(some 6), none, .f (.conv (.int .u64) (.t 5))⟩,
    .run ⟨(some 7), none, .e (.call 47 [(.t 6)])⟩,
    .run ⟨(some 3), none, .f (.mv (.t 7))⟩])
   (.seq (.reg [] [.run ⟨(some 8), none, .f (.mv (.t 3))⟩,
    .run ⟨(some 9), none, .f (.mv (.t 0))⟩,
    .run ⟨(some 10), none, .e (.append 1 1 false (.t 8) (.t 9))⟩,
    .run ⟨(some 2), none, .f (.mv (.t 10))⟩])
   .ret)))
theorem k_r01_Text : chkFn Tryd.prog n_r01_Text ⟨b_r01_Text, [.tmp 2], 11⟩ = true := by kernel_rfl
/-- fascine/fascineref01.Uvarint -/
abbrev n_r01_Uvarint : Nat := 47
def l_r01_Uvarint_0 : Cd := (.seq (.seq (.reg [] [.run ⟨(some 4), none, .f (.mv (.t 0))⟩,
    .run ⟨(some 5), none, .f (.bin .geq (.t 4) (.c (.int .u64 128)))⟩])
   (.ite (.t 5)
   .skip
   (.exit 0)))
   (.blk 1 (.seq (.reg [] [.run ⟨(some 6), none, .f (.mv (.t 3))⟩,
    .run ⟨(some 7), none, .f (.mv (.t 0))⟩,
    .run ⟨(some 8), none, .f (.bin .rem (.t 7) (.c (.int .u64 128)))⟩,
    .run ⟨(some 9), none, .f (.conv (.int .u8) (.t 8))⟩,
    .run ⟨(some 10), none, .f (.bin .add (.t 9) (.c (.int .u8 128)))⟩,
    .run ⟨(some 11), none, .e (.buildSlice 1 1 0 [(.int .u8 0)] [(0, 1, (.t 10))])⟩,
    .run ⟨(some 12), none, .e (.append 1 1 false (.t 6) (.t 11))⟩,
    .run ⟨(some 3), none, .f (.mv (.t 12))⟩])
   (.reg [] [.run ⟨(some 13), none, .f (.mv (.t 0))⟩,
    .run ⟨(some 14), none, .f (.bin .quo (.t 13) (.c (.int .u64 128)))⟩,
    .run ⟨(some 0), none, .f (.mv (.t 14))⟩]))))
def b_r01_Uvarint : Cd := (.seq (.reg [] [.run ⟨(some 2), none, .f (.mv (.c (.sl [] 0 1 .nil)))⟩])
   (.seq (.reg [] [.run ⟨(some 3), none, .f (.mv (.c (.sl [] 0 1 .nil)))⟩])
   (.seq (.blk 0 (.loop l_r01_Uvarint_0))
   (.seq (.reg [] [.run ⟨(some 15), none, .f (.mv (.t 3))⟩,
    .run ⟨(some 16), none, .f (.mv (.t 0))⟩,
    .run ⟨(some 17), none, .f (.conv (.int .u8) (.t 16))⟩,
    .run ⟨(some 18), none, .e (.buildSlice 1 1 0 [(.int .u8 0)] [(0, 1, (.t 17))])⟩,
    .run ⟨(some 19), none, .e (.append 1 1 false (.t 15) (.t 18))⟩,
    .run ⟨(some 2), none, .f (.mv (.t 19))⟩])
   .ret))))
theorem k_r01_Uvarint : chkFn Tryd.prog n_r01_Uvarint ⟨b_r01_Uvarint, [.tmp 2], 20⟩ = true := by kernel_rfl
/-- fascine/fascineref01.Zag -/
abbrev n_r01_Zag : Nat := 52
def b_r01_Zag : Cd := (.seq (.reg [] [.run ⟨(some 2), none, .f (.mv (.c (.int .i64 0)))⟩])
   (.seq (.seq (.reg [] [.run ⟨(some 3), none, .f (.mv (.t 0))⟩,
    .run ⟨(some 4), none, .f (.bin .rem (.t 3) (.c (.int .u64 2)))⟩,
    .run ⟨(some 5), none, .f (.bin .eql (.t 4) (.c (.int .u64 0)))⟩])
   (.ite (.t 5)
   (.seq (.reg [] [.run ⟨(some 6), none, .f (.mv (.t 0))⟩,
    .run ⟨(some 7), none, .f (.bin .quo (.t 6) (.c (.int .u64 2)))⟩,
    .run ⟨(some 8), none, .f (.conv (.int .i64) (.t 7))⟩,
    .run ⟨(some 2), none, .f (.mv (.t 8))⟩])
   .ret)
   .skip))
   (.seq (.reg [] [.run ⟨(some 9), none, .f (.mv (.t 0))⟩,
    .run ⟨(some 10), none, .f (.bin .quo (.t 9) (.c (.int .u64 2)))⟩,
    .run ⟨(some 11), none, .f (.conv (.int .i64) (.t 10))⟩,
    .run ⟨(some 12), none, .f (.un .neg (.t 11))⟩,
    .run ⟨(some 13), none, .f (.bin .sub (.t 12) (.c (.int .i64 1)))⟩,
    .run ⟨(some 2), none, .f (.mv (.t 13))⟩])
   .ret)))
theorem k_r01_Zag : chkFn Tryd.prog n_r01_Zag ⟨b_r01_Zag, [.tmp 2], 14⟩ = true := by kernel_rfl
/-- fascine/fascineref01.Zig -/
abbrev n_r01_Zig : Nat := 49
def b_r01_Zig : Cd := (.seq (.reg [] [.run ⟨(some 2), none, .f (.mv (.c (.int .u64 0)))⟩])
   (.seq (.seq (.reg [] [.run ⟨(some 3), none, .f (.mv (.t 0))⟩,
    .run ⟨(some 4), none, .f (.bin .geq (.t 3) (.c (.int .i64 0)))⟩])
   (.ite (.t 4)
   (.seq (.reg [] [.run ⟨(some 5), none, .f (.mv (.t 0))⟩,
    .run ⟨(some 6), none, .f (.conv (.int .u64) (.t 5))⟩,
    .run ⟨(some 7), none, .f (.bin .mul (.c (.int .u64 2)) (.t 6))⟩,
    .run ⟨(some 2), none, .f (.mv (.t 7))⟩])
   .ret)
   .skip))
   (.seq (.reg [] [.run ⟨(some 8), none, .f (.mv (.t 0))⟩,
    .run ⟨(some 9), none, .f (.bin .add (.t 8) (.c (.int .i64 1)))⟩,
    .run ⟨(some 10), none, .f (.un .neg (.t 9))⟩,
    .run ⟨(some 11), none, .f (.conv (.int .u64) (.t 10))⟩,
    .run ⟨(some 12), none, .f (.bin .mul (.c (.int .u64 2)) (.t 11))⟩,
    .run ⟨(some 13), none, .f (.bin .add (.t 12) (.c (.int .u64 1)))⟩,
    .run ⟨(some 2), none, .f (.mv (.t 13))⟩])
   .ret)))
theorem k_r01_Zig : chkFn Tryd.prog n_r01_Zig ⟨b_r01_Zig, [.tmp 2], 14⟩ = true := by kernel_rfl
end Go.VM
