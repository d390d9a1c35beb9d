/-
  The codes of functions, as the value machine has them, and that they stand for the model's (printed by a program, wip/gen).
-/
import Derived.Test.YthgpedcldmlceaaVmCall
import Derived.Test.YthgpedcldmlceaaProg
import Derived.KernelRfl
set_option linter.unusedVariables false
set_option maxRecDepth 100000
namespace Go.VM
open Go Go.Proofs

theorem mixed : Try.prog.follows .mixedOrders = true := by kernel_rfl
/-- fascine/fascinelaw03.WireOrder -/
def l3_0 : Cd := (.seq (.seq (.reg [] [.run ⟨(some 21), none, .f (.mv (.t 6))⟩,
    .run ⟨(some 22), none, .f (.mv (.t 0))⟩,
    .run ⟨(some 23), none, .f (.len .sl (.t 22))⟩,
    .run ⟨(some 24), none, .f (.bin .lss (.t 21) (.t 23))⟩])
   (.ite (.t 24)
   .skip
   (.exit 0)))
   (.seq (.blk 1 (.reg [] [.run ⟨(some 27), none, .f (.mv (.t 5))⟩,
    .run ⟨(some 28), none, .f (.mv (.t 0))⟩,
    .run ⟨(some 29), none, .f (.mv (.t 6))⟩,
    .run ⟨(some 30), none, .f (.indexAddr 3 (.t 28) (.t 29))⟩,
    .run ⟨(some 31), none, .f (.load true 3 (.t 30))⟩,
    .run ⟨(some 32), none, .e (.call 9 [(.t 27), (.t 31)])⟩]))
   (.reg [] [.run ⟨(some 25), none, .f (.mv (.t 6))⟩,
    .run ⟨(some 26), none, .f (.bin .add (.t 25) (.c (.int .i64 1)))⟩,
    .run ⟨(some 6), none, .f (.mv (.t 26))⟩])))
def k3_0 : Cd := (.seq (.reg [] [.run ⟨(some 8), none, .f (.mv (.c (.int .i64 0)))⟩])
   (.seq (.reg [] [.run ⟨(some 39), none, .f (.mv (.t 0))⟩,
    .run ⟨(some 40), none, .f (.mv (.t 7))⟩,
    .run ⟨(some 41), none, .f (.indexAddr 3 (.t 39) (.t 40))⟩,
    .run ⟨(some 42), none, .f (.load true 3 (.t 41))⟩,
    .run ⟨(some 9), none, .e (.alloc [(.int .i64 0), (.int .i64 0), (.sl [] 0 1 .nil)])⟩,
    .run ⟨none, none, .e (.store 3 (.t 9) (.t 42))⟩])
   (.seq (.seq (.reg [] [.run ⟨(some 43), none, .f (.mv (.t 1))⟩,
    .run ⟨(some 44), none, .f (.un .not (.t 43))⟩])
   (.ite (.t 44)
   (.seq (.reg [] [.run ⟨(some 45), none, .f (.mv (.t 5))⟩,
    .run ⟨(some 46), none, .e (.call 10 [(.t 45)])⟩,
    .run ⟨(some 47), none, .f (.bin .sub (.t 46) (.c (.int .i64 1)))⟩,
    .run ⟨(some 8), none, .f (.mv (.t 47))⟩])
   (.reg [] [.run ⟨(some 48), none, .f (.mv (.t 0))⟩,
    .run ⟨(some 49), none, .f (.mv (.t 0))⟩,
    .run ⟨(some 50), none, .f (.len .sl (.t 49))⟩,
    .run ⟨(some 51), none, .f (.bin .sub (.t 50) (.c (.int .i64 1)))⟩,
    .run ⟨(some 52), none, .f (.mv (.t 7))⟩,
    .run ⟨(some 53), none, .f (.bin .sub (.t 51) (.t 52))⟩,
    .run ⟨(some 54), none, .f (.indexAddr 3 (.t 48) (.t 53))⟩,
    .run ⟨(some 55), none, .f (.load true 3 (.t 54))⟩,
    .run ⟨none, none, .e (.store 3 (.t 9) (.t 55))⟩]))
   .skip))
   (.seq (.reg [] [.run ⟨(some 57), none, .f (.mv (.t 5))⟩,
    .run ⟨(some 58), none, .f (.mv (.t 8))⟩,
    .run ⟨(some 59), none, .e (.call 11 [(.t 57), (.t 58)])⟩,
    .run ⟨(some 56), none, .f (.mv (.t 59))⟩,
    .run ⟨(some 60), none, .f (.extract (.t 56) 0)⟩,
    .run ⟨(some 61), none, .f (.extract (.t 56) 1)⟩,
    .run ⟨(some 10), none, .e (.alloc [(.int .i64 0), (.int .i64 0), (.sl [] 0 1 .nil)])⟩,
    .run ⟨none, none, .e (.store 3 (.t 10) (.t 60))⟩,
    .run ⟨(some 11), none, .f (.mv (.t 61))⟩])
   (.seq (.reg [] [.run ⟨(some 62), none, .f (.mv (.t 11))⟩,
    .run ⟨(some 63), none, .f (.bin .neq (.t 62) (.c (.int .i64 0)))⟩,
    .run ⟨(some 64), none, .f (.mv (.t 63))⟩,
    .run ⟨(some 65), (some (64, false)), .f (.load true 3 (.t 10))⟩,
    .run ⟨(some 66), (some (64, false)), .f (.load true 3 (.t 9))⟩,
    .run ⟨(some 67), (some (64, false)), .e (.call 12 [(.t 65), (.t 66)])⟩,
    .run ⟨(some 68), (some (64, false)), .f (.un .not (.t 67))⟩,
    .run ⟨(some 69), none, .f (.pick (.t 64) (.c (.bool true)) (.t 68))⟩])
   (.ite (.t 69)
   (.seq (.reg [] [.run ⟨(some 4), none, .f (.mv (.c (.bool false)))⟩])
   .ret)
   .skip))))))
def l3_1 : Cd := (.seq (.seq (.reg [] [.run ⟨(some 33), none, .f (.mv (.t 7))⟩,
    .run ⟨(some 34), none, .f (.mv (.t 0))⟩,
    .run ⟨(some 35), none, .f (.len .sl (.t 34))⟩,
    .run ⟨(some 36), none, .f (.bin .lss (.t 33) (.t 35))⟩])
   (.ite (.t 36)
   .skip
   (.exit 2)))
   (.seq (.blk 3 k3_0)
   (.reg [] [.run ⟨(some 37), none, .f (.mv (.t 7))⟩,
    .run ⟨(some 38), none, .f (.bin .add (.t 37) (.c (.int .i64 1)))⟩,
    .run ⟨(some 7), none, .f (.mv (.t 38))⟩])))
def b3 : Cd := (.seq (.reg [] [.run ⟨(some 4), none, .f (.mv (.c (.bool false)))⟩])
   (.seq (.seq (.reg [] [.run ⟨(some 12), none, .e (.call 7 [])⟩,
    .run ⟨(some 13), none, .f (.un .not (.t 12))⟩,
    .run ⟨(some 14), none, .f (.mv (.t 13))⟩,
    .run ⟨(some 15), (some (14, false)), .f (.mv (.t 0))⟩,
    .run ⟨(some 16), (some (14, false)), .f (.len .sl (.t 15))⟩,
    .run ⟨(some 17), (some (14, false)), .f (.bin .gtr (.t 16) (.c (.int .i64 100)))⟩,
    .run ⟨(some 18), none, .f (.pick (.t 14) (.c (.bool true)) (.t 17))⟩])
   (.ite (.t 18)
   (.seq (.reg [] [.run ⟨(some 19), none, .e (.call 7 [])⟩,
    .run ⟨(some 4), none, .f (.mv (.t 19))⟩])
   .ret)
   .skip))
   (.seq (.reg [] [.run ⟨(some 20), none, .e (.call 8 [])⟩,
    .run ⟨(some 5), none, .f (.mv (.t 20))⟩])
   (.seq (.seq (.reg [] [.run ⟨(some 6), none, .f (.mv (.c (.int .i64 0)))⟩])
   (.blk 0 (.loop l3_0)))
   (.seq (.seq (.reg [] [.run ⟨(some 7), none, .f (.mv (.c (.int .i64 0)))⟩])
   (.blk 2 (.loop l3_1)))
   (.seq (.reg [] [.run ⟨(some 70), none, .f (.mv (.t 5))⟩,
    .run ⟨(some 71), none, .e (.call 10 [(.t 70)])⟩,
    .run ⟨(some 72), none, .f (.bin .eql (.t 71) (.c (.int .i64 0)))⟩,
    .run ⟨(some 4), none, .f (.mv (.t 72))⟩])
   .ret))))))
theorem k3 : chkFn Try.prog 3 ⟨b3, [.tmp 4], 73⟩ = true := by kernel_rfl
/-- fascine/fascinelaw03.WirePlays -/
def i4_0 : Cd := (.seq (.reg [] [.run ⟨(some 84), none, .f (.mv (.t 3))⟩,
    .run ⟨(some 85), none, .f (.fieldAddr 4 (.t 6))⟩,
    .run ⟨(some 86), none, .f (.load false 1 (.t 85))⟩,
    .run ⟨(some 87), none, .e (.call 13 [(.t 84), (.t 86)])⟩,
    .run ⟨(some 83), none, .f (.mv (.t 87))⟩,
    .run ⟨(some 88), none, .f (.extract (.t 83) 0)⟩,
    .run ⟨(some 89), none, .f (.extract (.t 83) 1)⟩,
    .run ⟨(some 8), none, .e (.alloc [(.int .i64 0), (.int .i64 0), (.sl [] 0 1 .nil)])⟩,
    .run ⟨none, none, .e (.store 3 (.t 8) (.t 88))⟩,
    .run ⟨(some 9), none, .f (.mv (.t 89))⟩])
   (.seq (.seq (.reg [] [.run ⟨(some 90), none, .f (.fieldAddr 0 (.t 6))⟩,
    .run ⟨(some 91), none, .f (.load false 1 (.t 90))⟩,
    .run ⟨(some 92), none, .f (.bin .rem (.t 91) (.c (.int .u8 4)))⟩,
    .run ⟨(some 93), none, .f (.bin .eql (.t 92) (.c (.int .u8 2)))⟩])
   (.ite (.t 93)
   (.reg [] [.run ⟨(some 95), none, .f (.mv (.t 3))⟩,
    .run ⟨(some 96), none, .f (.fieldAddr 4 (.t 6))⟩,
    .run ⟨(some 97), none, .f (.load false 1 (.t 96))⟩,
    .run ⟨(some 98), none, .e (.call 11 [(.t 95), (.t 97)])⟩,
    .run ⟨(some 94), none, .f (.mv (.t 98))⟩,
    .run ⟨(some 99), none, .f (.extract (.t 94) 0)⟩,
    .run ⟨(some 100), none, .f (.extract (.t 94) 1)⟩,
    .run ⟨none, none, .e (.store 3 (.t 8) (.t 99))⟩,
    .run ⟨(some 9), none, .f (.mv (.t 100))⟩])
   .skip))
   (.seq (.seq (.reg [0, 1, 2, 3, 4, 5, 6, 7, 8, 9, 10, 11, 12, 13, 14, 15, 16, 17, 18, 19, 20, 21, 22, 23, 24, 25, 26, 27, 28, 29, 30] [.run ⟨(some 101), none, .f (.mv (.t 7))⟩,
    .run ⟨(some 102), none, .f (.mv (.t 9))⟩,
    .run ⟨(some 103), none, .f (.bin .eql (.t 102) (.c (.int .i64 0)))⟩,
    .run ⟨(some 104), none, .f (.eq true .bool (.t 101) (.t 103))⟩,
    .run ⟨(some 105), none, .f (.mv (.t 104))⟩,
    .run ⟨(some 106), (some (105, false)), .f (.mv (.t 7))⟩,
    .run ⟨(some 107), (some (105, false)), .f (.un .not (.t 106))⟩,
    .run ⟨(some 108), (some (105, false)), .f (.mv (.t 107))⟩,
    .run ⟨(some 109), (some (108, true)), .f (.mv (.t 9))⟩,
    .run ⟨(some 110), (some (108, true)), .f (.bin .neq (.t 109) (.c (.int .i64 8)))⟩,
    .run ⟨(some 111), (some (108, true)), .f (.mv (.t 110))⟩,
    .run ⟨(some 112), (some (111, false)), .f (.load true 3 (.t 8))⟩,
    .run ⟨(some 113), (some (111, false)), .f (.build [(.int .i64 0), (.int .i64 0), (.sl [] 0 1 .nil)] [])⟩,
    .run ⟨(some 114), (some (111, false)), .e (.call 12 [(.t 112), (.t 113)])⟩,
    .run ⟨(some 115), (some (111, false)), .f (.un .not (.t 114))⟩,
    .run ⟨(some 116), (some (108, true)), .f (.pick (.t 111) (.c (.bool true)) (.t 115))⟩,
    .run ⟨(some 117), (some (105, false)), .f (.pick (.t 108) (.t 116) (.c (.bool false)))⟩,
    .run ⟨(some 118), none, .f (.pick (.t 105) (.c (.bool true)) (.t 117))⟩,
    .run ⟨(some 119), none, .f (.mv (.t 118))⟩,
    .run ⟨(some 120), (some (119, false)), .f (.mv (.t 7))⟩,
    .run ⟨(some 121), (some (119, false)), .f (.mv (.t 120))⟩,
    .run ⟨(some 122), (some (121, true)), .f (.load true 3 (.t 8))⟩,
    .run ⟨(some 123), (some (121, true)), .f (.mv (.t 4))⟩,
    .run ⟨(some 124), (some (121, true)), .f (.fieldAddr 4 (.t 6))⟩,
    .run ⟨(some 125), (some (121, true)), .f (.load false 1 (.t 124))⟩,
    .run ⟨(some 126), (some (121, true)), .f (.indexAddr 3 (.t 123) (.t 125))⟩,
    .run ⟨(some 127), (some (121, true)), .f (.load true 3 (.t 126))⟩,
    .run ⟨(some 128), (some (121, true)), .e (.call 12 [(.t 122), (.t 127)])⟩,
    .run ⟨(some 129), (some (121, true)), .f (.un .not (.t 128))⟩,
    .run ⟨(some 130), (some (119, false)), .f (.pick (.t 121) (.t 129) (.c (.bool false)))⟩,
    .run ⟨(some 131), none, .f (.pick (.t 119) (.c (.bool true)) (.t 130))⟩])
   (.ite (.t 131)
   (.seq (.reg [] [.run ⟨(some 2), none, .f (.mv (.c (.bool false)))⟩])
   .ret)
   .skip))
   (.seq (.reg [] [.run ⟨(some 132), none, .f (.mv (.t 7))⟩,
    .run ⟨(some 133), none, .f (.mv (.t 132))⟩,
    .run ⟨(some 134), (some (133, true)), .f (.fieldAddr 0 (.t 6))⟩,
    .run ⟨(some 135), (some (133, true)), .f (.load false 1 (.t 134))⟩,
    .run ⟨(some 136), (some (133, true)), .f (.bin .rem (.t 135) (.c (.int .u8 4)))⟩,
    .run ⟨(some 137), (some (133, true)), .f (.bin .eql (.t 136) (.c (.int .u8 2)))⟩,
    .run ⟨(some 138), none, .f (.pick (.t 133) (.t 137) (.c (.bool false)))⟩])
   (.ite (.t 138)
   (.reg [] [.run ⟨(some 139), none, .f (.mv (.t 4))⟩,
    .run ⟨(some 140), none, .f (.fieldAddr 4 (.t 6))⟩,
    .run ⟨(some 141), none, .f (.load false 1 (.t 140))⟩,
    .run ⟨(some 142), none, .e (.call 14 [(.t 139), (.t 141)])⟩,
    .run ⟨(some 4), none, .f (.mv (.t 142))⟩])
   .skip)))))
def k4_0 : Cd := (.seq (.reg [] [.run ⟨(some 70), none, .f (.bin .eql (.t 43) (.c (.int .u8 0)))⟩,
    .run ⟨(some 69), none, .f (.mv (.t 70))⟩])
   (.ite (.t 69)
   (.seq (.reg [] [.run ⟨(some 71), none, .f (.mv (.t 3))⟩,
    .run ⟨(some 72), none, .f (.fieldAddr 1 (.t 6))⟩,
    .run ⟨(some 73), none, .f (.load true 3 (.t 72))⟩,
    .run ⟨(some 74), none, .e (.call 9 [(.t 71), (.t 73)])⟩])
   (.reg [] [.run ⟨(some 75), none, .f (.mv (.t 4))⟩,
    .run ⟨(some 76), none, .f (.fieldAddr 1 (.t 6))⟩,
    .run ⟨(some 77), none, .f (.load true 3 (.t 76))⟩,
    .run ⟨(some 78), none, .e (.buildSlice 1 3 0 [(.int .i64 0), (.int .i64 0), (.sl [] 0 1 .nil)] [(0, 3, (.t 77))])⟩,
    .run ⟨(some 79), none, .e (.append 3 40 false (.t 75) (.t 78))⟩,
    .run ⟨(some 4), none, .f (.mv (.t 79))⟩]))
   (.seq (.seq (.reg [] [.run ⟨(some 81), none, .f (.bin .eql (.t 43) (.c (.int .u8 1)))⟩,
    .run ⟨(some 80), none, .f (.mv (.t 81))⟩])
   (.ite (.t 80)
   .skip
   (.reg [] [.run ⟨(some 82), none, .f (.bin .eql (.t 43) (.c (.int .u8 2)))⟩,
    .run ⟨(some 80), none, .f (.mv (.t 82))⟩])))
   (.ite (.t 80)
   i4_0
   (.seq (.reg [] [.run ⟨(some 44), none, .f (.mv (.t 3))⟩,
    .run ⟨(some 45), none, .f (.fieldAddr 4 (.t 6))⟩,
    .run ⟨(some 46), none, .f (.load false 1 (.t 45))⟩,
    .run ⟨(some 47), none, .e (.call 15 [(.t 44), (.t 46)])⟩,
    .run ⟨(some 10), none, .f (.mv (.t 47))⟩])
   (.seq (.seq (.reg [] [.run ⟨(some 48), none, .f (.mv (.t 7))⟩,
    .run ⟨(some 49), none, .f (.mv (.t 10))⟩,
    .run ⟨(some 50), none, .f (.bin .eql (.t 49) (.c (.int .i64 0)))⟩,
    .run ⟨(some 51), none, .f (.eq true .bool (.t 48) (.t 50))⟩,
    .run ⟨(some 52), none, .f (.mv (.t 51))⟩,
    .run ⟨(some 53), (some (52, false)), .f (.mv (.t 7))⟩,
    .run ⟨(some 54), (some (52, false)), .f (.un .not (.t 53))⟩,
    .run ⟨(some 55), (some (52, false)), .f (.mv (.t 54))⟩,
    .run ⟨(some 56), (some (55, true)), .f (.mv (.t 10))⟩,
    .run ⟨(some 57), (some (55, true)), .f (.bin .neq (.t 56) (.c (.int .i64 8)))⟩,
    .run ⟨(some 58), (some (52, false)), .f (.pick (.t 55) (.t 57) (.c (.bool false)))⟩,
    .run ⟨(some 59), none, .f (.pick (.t 52) (.c (.bool true)) (.t 58))⟩])
   (.ite (.t 59)
   (.seq (.reg [] [.run ⟨(some 2), none, .f (.mv (.c (.bool false)))⟩])
   .ret)
   .skip))
   (.seq (.reg [] [.run ⟨(some 60), none, .f (.mv (.t 7))⟩])
   (.ite (.t 60)
   (.reg [] [.run ⟨(some 61), none, .f (.mv (.t 4))⟩,
    .run ⟨(some 62), none, .f (.mv (.t 4))⟩,
    .run ⟨(some 63), none, .f (.fieldAddr 4 (.t 6))⟩,
    .run ⟨(some 64), none, .f (.load false 1 (.t 63))⟩,
    .run ⟨(some 65), none, .f (.indexAddr 3 (.t 62) (.t 64))⟩,
    .run ⟨(some 66), none, .f (.load true 3 (.t 65))⟩,
    .run ⟨(some 67), none, .e (.buildSlice 1 3 0 [(.int .i64 0), (.int .i64 0), (.sl [] 0 1 .nil)] [(0, 3, (.t 66))])⟩,
    .run ⟨(some 68), none, .e (.append 3 40 false (.t 61) (.t 67))⟩,
    .run ⟨(some 4), none, .f (.mv (.t 68))⟩])
   .skip))))))))
def l4_0 : Cd := (.seq (.seq (.reg [] [.run ⟨(some 148), none, .f (.mv (.t 11))⟩,
    .run ⟨(some 149), none, .f (.mv (.t 4))⟩,
    .run ⟨(some 150), none, .f (.len .sl (.t 149))⟩,
    .run ⟨(some 151), none, .f (.bin .lss (.t 148) (.t 150))⟩])
   (.ite (.t 151)
   .skip
   (.exit 3)))
   (.seq (.blk 4 (.seq (.reg [] [.run ⟨(some 155), none, .f (.mv (.t 3))⟩,
    .run ⟨(some 156), none, .f (.mv (.t 11))⟩,
    .run ⟨(some 157), none, .e (.call 13 [(.t 155), (.t 156)])⟩,
    .run ⟨(some 154), none, .f (.mv (.t 157))⟩,
    .run ⟨(some 158), none, .f (.extract (.t 154) 0)⟩,
    .run ⟨(some 159), none, .f (.extract (.t 154) 1)⟩,
    .run ⟨(some 12), none, .e (.alloc [(.int .i64 0), (.int .i64 0), (.sl [] 0 1 .nil)])⟩,
    .run ⟨none, none, .e (.store 3 (.t 12) (.t 158))⟩,
    .run ⟨(some 13), none, .f (.mv (.t 159))⟩])
   (.seq (.reg [0, 1, 2, 3, 4, 5, 6, 7, 8, 9, 10] [.run ⟨(some 160), none, .f (.mv (.t 13))⟩,
    .run ⟨(some 161), none, .f (.bin .neq (.t 160) (.c (.int .i64 0)))⟩,
    .run ⟨(some 162), none, .f (.mv (.t 161))⟩,
    .run ⟨(some 163), (some (162, false)), .f (.load true 3 (.t 12))⟩,
    .run ⟨(some 164), (some (162, false)), .f (.mv (.t 4))⟩,
    .run ⟨(some 165), (some (162, false)), .f (.mv (.t 11))⟩,
    .run ⟨(some 166), (some (162, false)), .f (.indexAddr 3 (.t 164) (.t 165))⟩,
    .run ⟨(some 167), (some (162, false)), .f (.load true 3 (.t 166))⟩,
    .run ⟨(some 168), (some (162, false)), .e (.call 12 [(.t 163), (.t 167)])⟩,
    .run ⟨(some 169), (some (162, false)), .f (.un .not (.t 168))⟩,
    .run ⟨(some 170), none, .f (.pick (.t 162) (.c (.bool true)) (.t 169))⟩])
   (.ite (.t 170)
   (.seq (.reg [] [.run ⟨(some 2), none, .f (.mv (.c (.bool false)))⟩])
   .ret)
   .skip))))
   (.reg [] [.run ⟨(some 152), none, .f (.mv (.t 11))⟩,
    .run ⟨(some 153), none, .f (.bin .add (.t 152) (.c (.int .i64 1)))⟩,
    .run ⟨(some 11), none, .f (.mv (.t 153))⟩])))
def s4_0 : Cd := (.seq (.seq (.reg [] [.run ⟨(some 143), none, .f (.mv (.t 3))⟩,
    .run ⟨(some 144), none, .e (.call 10 [(.t 143)])⟩,
    .run ⟨(some 145), none, .f (.mv (.t 4))⟩,
    .run ⟨(some 146), none, .f (.len .sl (.t 145))⟩,
    .run ⟨(some 147), none, .f (.bin .neq (.t 144) (.t 146))⟩])
   (.ite (.t 147)
   (.seq (.reg [] [.run ⟨(some 2), none, .f (.mv (.c (.bool false)))⟩])
   .ret)
   .skip))
   (.seq (.reg [] [.run ⟨(some 11), none, .f (.mv (.c (.int .i64 0)))⟩])
   (.blk 3 (.loop l4_0))))
def l4_1 : Cd := (.seq (.seq (.reg [] [.run ⟨(some 17), none, .f (.mv (.t 5))⟩,
    .run ⟨(some 18), none, .f (.mv (.t 0))⟩,
    .run ⟨(some 19), none, .f (.len .sl (.t 18))⟩,
    .run ⟨(some 20), none, .f (.bin .lss (.t 17) (.t 19))⟩,
    .run ⟨(some 21), none, .f (.mv (.t 20))⟩,
    .run ⟨(some 22), (some (21, true)), .f (.mv (.t 5))⟩,
    .run ⟨(some 23), (some (21, true)), .f (.bin .lss (.t 22) (.c (.int .i64 100)))⟩,
    .run ⟨(some 24), none, .f (.pick (.t 21) (.t 23) (.c (.bool false)))⟩])
   (.ite (.t 24)
   .skip
   (.exit 0)))
   (.seq (.blk 1 (.seq (.reg [] [.run ⟨(some 27), none, .f (.mv (.t 0))⟩,
    .run ⟨(some 28), none, .f (.mv (.t 5))⟩,
    .run ⟨(some 29), none, .f (.indexAddr 5 (.t 27) (.t 28))⟩,
    .run ⟨(some 30), none, .f (.load true 5 (.t 29))⟩,
    .run ⟨(some 6), none, .e (.alloc [(.int .u8 0), (.int .i64 0), (.int .i64 0), (.sl [] 0 1 .nil), (.int .i64 0)])⟩,
    .run ⟨none, none, .e (.store 5 (.t 6) (.t 30))⟩])
   (.seq (.reg [] [.run ⟨(some 31), none, .f (.fieldAddr 4 (.t 6))⟩,
    .run ⟨(some 32), none, .f (.load false 1 (.t 31))⟩,
    .run ⟨(some 33), none, .f (.bin .geq (.t 32) (.c (.int .i64 0)))⟩,
    .run ⟨(some 34), none, .f (.mv (.t 33))⟩,
    .run ⟨(some 35), (some (34, true)), .f (.fieldAddr 4 (.t 6))⟩,
    .run ⟨(some 36), (some (34, true)), .f (.load false 1 (.t 35))⟩,
    .run ⟨(some 37), (some (34, true)), .f (.mv (.t 4))⟩,
    .run ⟨(some 38), (some (34, true)), .f (.len .sl (.t 37))⟩,
    .run ⟨(some 39), (some (34, true)), .f (.bin .lss (.t 36) (.t 38))⟩,
    .run ⟨(some 40), none, .f (.pick (.t 34) (.t 39) (.c (.bool false)))⟩,
    .run ⟨(some 7), none, .f (.mv (.t 40))⟩])
   (.seq (.seq (.reg [] [.run ⟨(some 41), none, .f (.fieldAddr 0 (.t 6))⟩,
    .run ⟨(some 42), none, .f (.load false 1 (.t 41))⟩,
    .run ⟨(some 43), none, .f (.bin .rem (.t 42) (.c (.int .u8 4)))⟩])
   (.blk 2 k4_0))
   s4_0))))
   (.reg [] [.run ⟨(some 25), none, .f (.mv (.t 5))⟩,
    .run ⟨(some 26), none, .f (.bin .add (.t 25) (.c (.int .i64 1)))⟩,
    .run ⟨(some 5), none, .f (.mv (.t 26))⟩])))
def b4 : Cd := (.seq (.reg [] [.run ⟨(some 2), none, .f (.mv (.c (.bool false)))⟩])
   (.seq (.seq (.reg [] [.run ⟨(some 14), none, .e (.call 7 [])⟩,
    .run ⟨(some 15), none, .f (.un .not (.t 14))⟩])
   (.ite (.t 15)
   (.seq (.reg [] [.run ⟨(some 2), none, .f (.mv (.c (.bool false)))⟩])
   .ret)
   .skip))
   (.seq (.reg [] [.run ⟨(some 16), none, .e (.call 8 [])⟩,
    .run ⟨(some 3), none, .f (.mv (.t 16))⟩])
   (.seq (.reg [] [.run ⟨(some 4), none, .f (.mv (.c (.sl [] 0 3 .nil)))⟩])
   (.seq (.seq (.reg [] [.run ⟨(some 5), none, .f (.mv (.c (.int .i64 0)))⟩])
   (.blk 0 (.loop l4_1)))
   (.seq (.reg [] [.run ⟨(some 2), none, .f (.mv (.c (.bool true)))⟩])
   .ret))))))
theorem k4 : chkFn Try.prog 4 ⟨b4, [.tmp 2], 171⟩ = true := by kernel_rfl
/-- fascine/fascinelaw03.WireKeeps -/
def l5_0 : Cd := (.seq (.seq (.reg [] [.run ⟨(some 34), none, .f (.mv (.t 5))⟩,
    .run ⟨(some 35), none, .f (.fieldAddr 2 (.t 4))⟩,
    .run ⟨(some 36), none, .f (.load false 1 (.t 35))⟩,
    .run ⟨(some 37), none, .f (.len .sl (.t 36))⟩,
    .run ⟨(some 38), none, .f (.bin .lss (.t 34) (.t 37))⟩])
   (.ite (.t 38)
   .skip
   (.exit 0)))
   (.seq (.blk 1 (.reg [0, 1, 2, 3, 4, 5, 6, 7, 8, 9, 10] [.run ⟨(some 41), none, .f (.fieldAddr 2 (.t 4))⟩,
    .run ⟨(some 42), none, .f (.load false 1 (.t 41))⟩,
    .run ⟨(some 43), none, .f (.mv (.t 5))⟩,
    .run ⟨(some 44), none, .f (.fieldAddr 2 (.t 4))⟩,
    .run ⟨(some 45), none, .f (.load false 1 (.t 44))⟩,
    .run ⟨(some 46), none, .f (.mv (.t 5))⟩,
    .run ⟨(some 47), none, .f (.indexAddr 1 (.t 45) (.t 46))⟩,
    .run ⟨(some 48), none, .f (.load false 1 (.t 47))⟩,
    .run ⟨(some 49), none, .f (.bin .xor (.t 48) (.c (.int .u8 1)))⟩,
    .run ⟨(some 50), none, .f (.indexAddr 1 (.t 42) (.t 43))⟩,
    .run ⟨none, none, .e (.store 1 (.t 50) (.t 49))⟩]))
   (.reg [] [.run ⟨(some 39), none, .f (.mv (.t 5))⟩,
    .run ⟨(some 40), none, .f (.bin .add (.t 39) (.c (.int .i64 1)))⟩,
    .run ⟨(some 5), none, .f (.mv (.t 40))⟩])))
def l5_1 : Cd := (.seq (.seq (.reg [] [.run ⟨(some 56), none, .f (.mv (.t 8))⟩,
    .run ⟨(some 57), none, .f (.fieldAddr 2 (.t 6))⟩,
    .run ⟨(some 58), none, .f (.load false 1 (.t 57))⟩,
    .run ⟨(some 59), none, .f (.len .sl (.t 58))⟩,
    .run ⟨(some 60), none, .f (.bin .lss (.t 56) (.t 59))⟩])
   (.ite (.t 60)
   .skip
   (.exit 2)))
   (.seq (.blk 3 (.reg [0, 1, 2, 3, 4, 5, 6, 7, 8, 9, 10] [.run ⟨(some 63), none, .f (.fieldAddr 2 (.t 6))⟩,
    .run ⟨(some 64), none, .f (.load false 1 (.t 63))⟩,
    .run ⟨(some 65), none, .f (.mv (.t 8))⟩,
    .run ⟨(some 66), none, .f (.fieldAddr 2 (.t 6))⟩,
    .run ⟨(some 67), none, .f (.load false 1 (.t 66))⟩,
    .run ⟨(some 68), none, .f (.mv (.t 8))⟩,
    .run ⟨(some 69), none, .f (.indexAddr 1 (.t 67) (.t 68))⟩,
    .run ⟨(some 70), none, .f (.load false 1 (.t 69))⟩,
    .run ⟨(some 71), none, .f (.bin .xor (.t 70) (.c (.int .u8 2)))⟩,
    .run ⟨(some 72), none, .f (.indexAddr 1 (.t 64) (.t 65))⟩,
    .run ⟨none, none, .e (.store 1 (.t 72) (.t 71))⟩]))
   (.reg [] [.run ⟨(some 61), none, .f (.mv (.t 8))⟩,
    .run ⟨(some 62), none, .f (.bin .add (.t 61) (.c (.int .i64 1)))⟩,
    .run ⟨(some 8), none, .f (.mv (.t 62))⟩])))
def l5_2 : Cd := (.seq (.seq (.reg [] [.run ⟨(some 78), none, .f (.mv (.t 11))⟩,
    .run ⟨(some 79), none, .f (.fieldAddr 2 (.t 9))⟩,
    .run ⟨(some 80), none, .f (.load false 1 (.t 79))⟩,
    .run ⟨(some 81), none, .f (.len .sl (.t 80))⟩,
    .run ⟨(some 82), none, .f (.bin .lss (.t 78) (.t 81))⟩])
   (.ite (.t 82)
   .skip
   (.exit 4)))
   (.seq (.blk 5 (.reg [0, 1, 2, 3, 4, 5, 6, 7, 8, 9, 10] [.run ⟨(some 85), none, .f (.fieldAddr 2 (.t 9))⟩,
    .run ⟨(some 86), none, .f (.load false 1 (.t 85))⟩,
    .run ⟨(some 87), none, .f (.mv (.t 11))⟩,
    .run ⟨(some 88), none, .f (.fieldAddr 2 (.t 9))⟩,
    .run ⟨(some 89), none, .f (.load false 1 (.t 88))⟩,
    .run ⟨(some 90), none, .f (.mv (.t 11))⟩,
    .run ⟨(some 91), none, .f (.indexAddr 1 (.t 89) (.t 90))⟩,
    .run ⟨(some 92), none, .f (.load false 1 (.t 91))⟩,
    .run ⟨(some 93), none, .f (.bin .xor (.t 92) (.c (.int .u8 4)))⟩,
    .run ⟨(some 94), none, .f (.indexAddr 1 (.t 86) (.t 87))⟩,
    .run ⟨none, none, .e (.store 1 (.t 94) (.t 93))⟩]))
   (.reg [] [.run ⟨(some 83), none, .f (.mv (.t 11))⟩,
    .run ⟨(some 84), none, .f (.bin .add (.t 83) (.c (.int .i64 1)))⟩,
    .run ⟨(some 11), none, .f (.mv (.t 84))⟩])))
def s5_0 : Cd := (.seq (.reg [] [.run ⟨(some 96), none, .f (.mv (.t 3))⟩,
    .run ⟨(some 97), none, .e (.call 11 [(.t 96), (.c (.int .i64 0))])⟩,
    .run ⟨(some 95), none, .f (.mv (.t 97))⟩,
    .run ⟨(some 98), none, .f (.extract (.t 95) 0)⟩,
    .run ⟨(some 99), none, .f (.extract (.t 95) 1)⟩,
    .run ⟨(some 12), none, .e (.alloc [(.int .i64 0), (.int .i64 0), (.sl [] 0 1 .nil)])⟩,
    .run ⟨none, none, .e (.store 3 (.t 12) (.t 98))⟩,
    .run ⟨(some 13), none, .f (.mv (.t 99))⟩])
   (.seq (.reg [] [.run ⟨(some 100), none, .f (.mv (.t 7))⟩,
    .run ⟨(some 101), none, .f (.bin .eql (.t 100) (.c (.int .i64 0)))⟩,
    .run ⟨(some 102), none, .f (.mv (.t 101))⟩,
    .run ⟨(some 103), (some (102, true)), .f (.mv (.t 10))⟩,
    .run ⟨(some 104), (some (102, true)), .f (.bin .eql (.t 103) (.c (.int .i64 0)))⟩,
    .run ⟨(some 105), none, .f (.pick (.t 102) (.t 104) (.c (.bool false)))⟩,
    .run ⟨(some 106), none, .f (.mv (.t 105))⟩,
    .run ⟨(some 107), (some (106, true)), .f (.mv (.t 13))⟩,
    .run ⟨(some 108), (some (106, true)), .f (.bin .eql (.t 107) (.c (.int .i64 0)))⟩,
    .run ⟨(some 109), none, .f (.pick (.t 106) (.t 108) (.c (.bool false)))⟩,
    .run ⟨(some 110), none, .f (.mv (.t 109))⟩,
    .run ⟨(some 111), (some (110, true)), .f (.load true 3 (.t 12))⟩,
    .run ⟨(some 112), (some (110, true)), .f (.load true 3 (.t 1))⟩,
    .run ⟨(some 113), (some (110, true)), .e (.call 12 [(.t 111), (.t 112)])⟩,
    .run ⟨(some 114), none, .f (.pick (.t 110) (.t 113) (.c (.bool false)))⟩,
    .run ⟨(some 115), none, .f (.mv (.t 114))⟩,
    .run ⟨(some 116), (some (115, true)), .f (.mv (.t 3))⟩,
    .run ⟨(some 117), (some (115, true)), .e (.call 10 [(.t 116)])⟩,
    .run ⟨(some 118), (some (115, true)), .f (.bin .eql (.t 117) (.c (.int .i64 0)))⟩,
    .run ⟨(some 119), none, .f (.pick (.t 115) (.t 118) (.c (.bool false)))⟩,
    .run ⟨(some 2), none, .f (.mv (.t 119))⟩])
   .ret))
def s5_1 : Cd := (.seq (.reg [] [.run ⟨(some 74), none, .f (.mv (.t 3))⟩,
    .run ⟨(some 75), none, .e (.call 11 [(.t 74), (.c (.int .i64 1))])⟩,
    .run ⟨(some 73), none, .f (.mv (.t 75))⟩,
    .run ⟨(some 76), none, .f (.extract (.t 73) 0)⟩,
    .run ⟨(some 77), none, .f (.extract (.t 73) 1)⟩,
    .run ⟨(some 9), none, .e (.alloc [(.int .i64 0), (.int .i64 0), (.sl [] 0 1 .nil)])⟩,
    .run ⟨none, none, .e (.store 3 (.t 9) (.t 76))⟩,
    .run ⟨(some 10), none, .f (.mv (.t 77))⟩])
   (.seq (.seq (.reg [] [.run ⟨(some 11), none, .f (.mv (.c (.int .i64 0)))⟩])
   (.blk 4 (.loop l5_2)))
   s5_0))
def s5_2 : Cd := (.seq (.reg [] [.run ⟨(some 52), none, .f (.mv (.t 3))⟩,
    .run ⟨(some 53), none, .e (.call 13 [(.t 52), (.c (.int .i64 1))])⟩,
    .run ⟨(some 51), none, .f (.mv (.t 53))⟩,
    .run ⟨(some 54), none, .f (.extract (.t 51) 0)⟩,
    .run ⟨(some 55), none, .f (.extract (.t 51) 1)⟩,
    .run ⟨(some 6), none, .e (.alloc [(.int .i64 0), (.int .i64 0), (.sl [] 0 1 .nil)])⟩,
    .run ⟨none, none, .e (.store 3 (.t 6) (.t 54))⟩,
    .run ⟨(some 7), none, .f (.mv (.t 55))⟩])
   (.seq (.seq (.reg [] [.run ⟨(some 8), none, .f (.mv (.c (.int .i64 0)))⟩])
   (.blk 2 (.loop l5_1)))
   s5_1))
def b5 : Cd := (.seq (.reg [] [.run ⟨(some 1), none, .e (.box (.t 0))⟩,
    .run ⟨(some 2), none, .f (.mv (.c (.bool false)))⟩])
   (.seq (.seq (.reg [] [.run ⟨(some 14), none, .e (.call 7 [])⟩,
    .run ⟨(some 15), none, .f (.un .not (.t 14))⟩])
   (.ite (.t 15)
   (.seq (.reg [] [.run ⟨(some 2), none, .f (.mv (.c (.bool false)))⟩])
   .ret)
   .skip))
   (.seq (.reg [] [.run ⟨(some 16), none, .e (.call 8 [])⟩,
    .run ⟨(some 3), none, .f (.mv (.t 16))⟩])
   (.seq (.reg [] [.run ⟨(some 17), none, .f (.fieldAddr 0 (.t 1))⟩,
    .run ⟨(some 18), none, .f (.load false 1 (.t 17))⟩,
    .run ⟨(some 19), none, .f (.fieldAddr 1 (.t 1))⟩,
    .run ⟨(some 20), none, .f (.load false 1 (.t 19))⟩,
    .run ⟨(some 21), none, .f (.build [(.int .i64 0), (.int .i64 0), (.sl [] 0 1 .nil)] [(0, 1, (.t 18)), (1, 1, (.t 20))])⟩,
    .run ⟨(some 4), none, .e (.alloc [(.int .i64 0), (.int .i64 0), (.sl [] 0 1 .nil)])⟩,
    .run ⟨none, none, .e (.store 3 (.t 4) (.t 21))⟩])
   (.seq (.reg [] [.run ⟨(some 22), none, .f (.fieldAddr 2 (.t 4))⟩,
    .run ⟨(some 23), none, .f (.load false 1 (.t 22))⟩,
    .run ⟨(some 24), none, .f (.fieldAddr 2 (.t 1))⟩,
    .run ⟨(some 25), none, .f (.load false 1 (.t 24))⟩,
    .run ⟨(some 26), none, .e (.append 1 1 true (.t 23) (.t 25))⟩,
    .run ⟨(some 27), none, .f (.fieldAddr 2 (.t 4))⟩,
    .run ⟨none, none, .e (.store 1 (.t 27) (.t 26))⟩])
   (.seq (.reg [] [.run ⟨(some 28), none, .f (.mv (.t 3))⟩,
    .run ⟨(some 29), none, .f (.load true 3 (.t 4))⟩,
    .run ⟨(some 30), none, .e (.call 9 [(.t 28), (.t 29)])⟩])
   (.seq (.seq (.reg [] [.run ⟨(some 31), none, .f (.mv (.t 3))⟩,
    .run ⟨(some 32), none, .e (.call 15 [(.t 31), (.c (.int .i64 0))])⟩,
    .run ⟨(some 33), none, .f (.bin .neq (.t 32) (.c (.int .i64 0)))⟩])
   (.ite (.t 33)
   (.seq (.reg [] [.run ⟨(some 2), none, .f (.mv (.c (.bool false)))⟩])
   .ret)
   .skip))
   (.seq (.seq (.reg [] [.run ⟨(some 5), none, .f (.mv (.c (.int .i64 0)))⟩])
   (.blk 0 (.loop l5_0)))
   s5_2))))))))
theorem k5 : chkFn Try.prog 5 ⟨b5, [.tmp 2], 120⟩ = true := by kernel_rfl
/-- fascine/fascinelaw03.WireNil -/
def b6 : Cd := (.seq (.reg [] [.run ⟨(some 2), none, .e (.box (.t 0))⟩,
    .run ⟨(some 4), none, .f (.mv (.c (.bool false)))⟩])
   (.seq (.reg [] [.run ⟨(some 5), none, .f (.mv (.c (.ptr none)))⟩])
   (.seq (.reg [] [.run ⟨(some 10), none, .f (.mv (.t 5))⟩,
    .run ⟨(some 11), none, .f (.load true 3 (.t 2))⟩,
    .run ⟨(some 12), none, .e (.call 9 [(.t 10), (.t 11)])⟩])
   (.seq (.reg [] [.run ⟨(some 14), none, .f (.mv (.t 5))⟩,
    .run ⟨(some 15), none, .f (.mv (.t 1))⟩,
    .run ⟨(some 16), none, .e (.call 13 [(.t 14), (.t 15)])⟩,
    .run ⟨(some 13), none, .f (.mv (.t 16))⟩,
    .run ⟨(some 17), none, .f (.extract (.t 13) 0)⟩,
    .run ⟨(some 18), none, .f (.extract (.t 13) 1)⟩,
    .run ⟨(some 6), none, .e (.alloc [(.int .i64 0), (.int .i64 0), (.sl [] 0 1 .nil)])⟩,
    .run ⟨none, none, .e (.store 3 (.t 6) (.t 17))⟩,
    .run ⟨(some 7), none, .f (.mv (.t 18))⟩])
   (.seq (.reg [] [.run ⟨(some 20), none, .f (.mv (.t 5))⟩,
    .run ⟨(some 21), none, .f (.mv (.t 1))⟩,
    .run ⟨(some 22), none, .e (.call 11 [(.t 20), (.t 21)])⟩,
    .run ⟨(some 19), none, .f (.mv (.t 22))⟩,
    .run ⟨(some 23), none, .f (.extract (.t 19) 0)⟩,
    .run ⟨(some 24), none, .f (.extract (.t 19) 1)⟩,
    .run ⟨(some 8), none, .e (.alloc [(.int .i64 0), (.int .i64 0), (.sl [] 0 1 .nil)])⟩,
    .run ⟨none, none, .e (.store 3 (.t 8) (.t 23))⟩,
    .run ⟨(some 9), none, .f (.mv (.t 24))⟩])
   (.seq (.reg [] [.run ⟨(some 25), none, .e (.call 7 [])⟩,
    .run ⟨(some 26), none, .f (.mv (.t 25))⟩,
    .run ⟨(some 27), (some (26, true)), .f (.mv (.t 5))⟩,
    .run ⟨(some 28), (some (26, true)), .e (.call 10 [(.t 27)])⟩,
    .run ⟨(some 29), (some (26, true)), .f (.bin .eql (.t 28) (.c (.int .i64 0)))⟩,
    .run ⟨(some 30), none, .f (.pick (.t 26) (.t 29) (.c (.bool false)))⟩,
    .run ⟨(some 31), none, .f (.mv (.t 30))⟩,
    .run ⟨(some 32), (some (31, true)), .f (.mv (.t 7))⟩,
    .run ⟨(some 33), (some (31, true)), .f (.bin .eql (.t 32) (.c (.int .i64 8)))⟩,
    .run ⟨(some 34), none, .f (.pick (.t 31) (.t 33) (.c (.bool false)))⟩,
    .run ⟨(some 35), none, .f (.mv (.t 34))⟩,
    .run ⟨(some 36), (some (35, true)), .f (.mv (.t 9))⟩,
    .run ⟨(some 37), (some (35, true)), .f (.bin .eql (.t 36) (.c (.int .i64 8)))⟩,
    .run ⟨(some 38), none, .f (.pick (.t 35) (.t 37) (.c (.bool false)))⟩,
    .run ⟨(some 39), none, .f (.mv (.t 38))⟩,
    .run ⟨(some 40), (some (39, true)), .f (.mv (.t 5))⟩,
    .run ⟨(some 41), (some (39, true)), .f (.mv (.t 1))⟩,
    .run ⟨(some 42), (some (39, true)), .e (.call 15 [(.t 40), (.t 41)])⟩,
    .run ⟨(some 43), (some (39, true)), .f (.bin .eql (.t 42) (.c (.int .i64 8)))⟩,
    .run ⟨(some 44), none, .f (.pick (.t 39) (.t 43) (.c (.bool false)))⟩,
    .run ⟨(some 4), none, .f (.mv (.t 44))⟩])
   .ret))))))
theorem k6 : chkFn Try.prog 6 ⟨b6, [.tmp 4], 45⟩ = true := by kernel_rfl
/-- fascine/fascinelaw03.awake -/
def b7 : Cd := (.seq (.reg [] [.run ⟨(some 0), none, .f (.mv (.c (.bool false)))⟩])
   (.seq (.reg [] [.run ⟨(some 4), none, .e (.call 8 [])⟩,
    .run ⟨(some 1), none, .f (.mv (.t 4))⟩])
   (.seq (.seq (.reg [] [.run ⟨(some 5), none, .f (.mv (.t 1))⟩,
    .run ⟨(some 6), none, .f (.eq false .ptr (.t 5) (.c (.ptr none)))⟩])
   (.ite (.t 6)
   (.seq (.reg [] [.run ⟨(some 0), none, .f (.mv (.c (.bool false)))⟩])
   .ret)
   .skip))
   (.seq (.reg [] [.run ⟨(some 7), none, .f (.mv (.t 1))⟩,
    .run ⟨(some 8), none, .e (.buildSlice 1 1 2 [(.int .u8 0)] [(0, 1, (.c (.int .u8 120)))])⟩,
    .run ⟨(some 9), none, .e (.bytesSame (.t 8))⟩,
    .run ⟨(some 10), none, .f (.build [(.int .i64 0), (.int .i64 0), (.sl [] 0 1 .nil)] [(1, 1, (.c (.int .i64 1))), (2, 1, (.t 9))])⟩,
    .run ⟨(some 11), none, .e (.call 9 [(.t 7), (.t 10)])⟩])
   (.seq (.reg [] [.run ⟨(some 13), none, .f (.mv (.t 1))⟩,
    .run ⟨(some 14), none, .e (.call 13 [(.t 13), (.c (.int .i64 0))])⟩,
    .run ⟨(some 12), none, .f (.mv (.t 14))⟩,
    .run ⟨(some 15), none, .f (.extract (.t 12) 0)⟩,
    .run ⟨(some 16), none, .f (.extract (.t 12) 1)⟩,
    .run ⟨(some 2), none, .e (.alloc [(.int .i64 0), (.int .i64 0), (.sl [] 0 1 .nil)])⟩,
    .run ⟨none, none, .e (.store 3 (.t 2) (.t 15))⟩,
    .run ⟨(some 3), none, .f (.mv (.t 16))⟩])
   (.seq (.reg [] [.run ⟨(some 17), none, .f (.mv (.t 1))⟩,
    .run ⟨(some 18), none, .e (.call 10 [(.t 17)])⟩,
    .run ⟨(some 19), none, .f (.bin .eql (.t 18) (.c (.int .i64 1)))⟩,
    .run ⟨(some 20), none, .f (.mv (.t 19))⟩,
    .run ⟨(some 21), (some (20, true)), .f (.mv (.t 3))⟩,
    .run ⟨(some 22), (some (20, true)), .f (.bin .eql (.t 21) (.c (.int .i64 0)))⟩,
    .run ⟨(some 23), none, .f (.pick (.t 20) (.t 22) (.c (.bool false)))⟩,
    .run ⟨(some 24), none, .f (.mv (.t 23))⟩,
    .run ⟨(some 25), (some (24, true)), .f (.fieldAddr 1 (.t 2))⟩,
    .run ⟨(some 26), (some (24, true)), .f (.load false 1 (.t 25))⟩,
    .run ⟨(some 27), (some (24, true)), .f (.bin .eql (.t 26) (.c (.int .i64 1)))⟩,
    .run ⟨(some 28), none, .f (.pick (.t 24) (.t 27) (.c (.bool false)))⟩,
    .run ⟨(some 29), none, .f (.mv (.t 28))⟩,
    .run ⟨(some 30), (some (29, true)), .f (.fieldAddr 2 (.t 2))⟩,
    .run ⟨(some 31), (some (29, true)), .f (.load false 1 (.t 30))⟩,
    .run ⟨(some 32), (some (29, true)), .f (.conv .bytesStr (.t 31))⟩,
    .run ⟨(some 33), (some (29, true)), .f (.bin .eql (.t 32) (.c (.str ⟨#[120]⟩)))⟩,
    .run ⟨(some 34), none, .f (.pick (.t 29) (.t 33) (.c (.bool false)))⟩,
    .run ⟨(some 0), none, .f (.mv (.t 34))⟩])
   .ret))))))
theorem k7 : chkFn Try.prog 7 ⟨b7, [.tmp 0], 35⟩ = true := by kernel_rfl
/-- fascine/wire.New -/
def b8 : Cd := (.seq (.reg [] [.run ⟨(some 0), none, .f (.mv (.c (.ptr none)))⟩])
   (.seq (.reg [] [.run ⟨(some 1), none, .f (.build [(.sl [] 0 3 .nil)] [])⟩,
    .run ⟨(some 2), none, .e (.box (.t 1))⟩,
    .run ⟨(some 0), none, .f (.mv (.t 2))⟩])
   .ret))
theorem k8 : chkFn Try.prog 8 ⟨b8, [.tmp 0], 3⟩ = true := by kernel_rfl
/-- (*fascine/wire.Net).Send -/
def b9 : Cd := (.seq (.reg [] [.run ⟨(some 3), none, .e (.box (.t 1))⟩])
   (.seq (.reg [] [.run ⟨(some 4), none, .f (.mv (.t 0))⟩,
    .run ⟨(some 5), none, .f (.eq true .ptr (.t 4) (.c (.ptr none)))⟩])
   (.ite (.t 5)
   (.reg [0, 1, 2, 3, 4, 5, 6, 4, 7, 4, 8, 9, 10, 11] [.run ⟨(some 6), none, .f (.mv (.t 0))⟩,
    .run ⟨(some 7), none, .f (.mv (.t 0))⟩,
    .run ⟨(some 8), none, .f (.nilCheck (.t 7))⟩,
    .run ⟨(some 9), none, .f (.fieldAddr 0 (.t 8))⟩,
    .run ⟨(some 10), none, .f (.load false 1 (.t 9))⟩,
    .run ⟨(some 11), none, .f (.load true 3 (.t 3))⟩,
    .run ⟨(some 12), none, .e (.call 16 [(.t 11)])⟩,
    .chk 10 none (.load false 1 (.t 9)),
    .run ⟨(some 13), none, .e (.buildSlice 1 3 0 [(.int .i64 0), (.int .i64 0), (.sl [] 0 1 .nil)] [(0, 3, (.t 12))])⟩,
    .chk 10 none (.load false 1 (.t 9)),
    .run ⟨(some 14), none, .e (.append 3 40 false (.t 10) (.t 13))⟩,
    .run ⟨(some 15), none, .f (.nilCheck (.t 6))⟩,
    .run ⟨(some 16), none, .f (.fieldAddr 0 (.t 15))⟩,
    .run ⟨none, none, .e (.store 1 (.t 16) (.t 14))⟩])
   .skip)))
theorem k9 : chkFn Try.prog 9 ⟨b9, [], 17⟩ = true := by kernel_rfl
/-- (*fascine/wire.Net).Len -/
def b10 : Cd := (.seq (.reg [] [.run ⟨(some 2), none, .f (.mv (.c (.int .i64 0)))⟩])
   (.seq (.seq (.reg [] [.run ⟨(some 3), none, .f (.mv (.t 0))⟩,
    .run ⟨(some 4), none, .f (.eq false .ptr (.t 3) (.c (.ptr none)))⟩])
   (.ite (.t 4)
   (.seq (.reg [] [.run ⟨(some 2), none, .f (.mv (.c (.int .i64 0)))⟩])
   .ret)
   .skip))
   (.seq (.reg [] [.run ⟨(some 5), none, .f (.mv (.t 0))⟩,
    .run ⟨(some 6), none, .f (.nilCheck (.t 5))⟩,
    .run ⟨(some 7), none, .f (.fieldAddr 0 (.t 6))⟩,
    .run ⟨(some 8), none, .f (.load false 1 (.t 7))⟩,
    .run ⟨(some 9), none, .f (.len .sl (.t 8))⟩,
    .run ⟨(some 2), none, .f (.mv (.t 9))⟩])
   .ret)))
theorem k10 : chkFn Try.prog 10 ⟨b10, [.tmp 2], 10⟩ = true := by kernel_rfl
/-- (*fascine/wire.Net).Take -/
def b11 : Cd := (.seq (.reg [] [.run ⟨(some 4), none, .e (.alloc [(.int .i64 0), (.int .i64 0), (.sl [] 0 1 .nil)])⟩,
    .run ⟨(some 5), none, .f (.mv (.c (.int .i64 0)))⟩])
   (.seq (.reg [] [.run ⟨(some 10), none, .f (.mv (.t 0))⟩,
    .run ⟨(some 11), none, .f (.mv (.t 1))⟩,
    .run ⟨(some 12), none, .e (.call 13 [(.t 10), (.t 11)])⟩,
    .run ⟨(some 9), none, .f (.mv (.t 12))⟩,
    .run ⟨(some 13), none, .f (.extract (.t 9) 0)⟩,
    .run ⟨(some 14), none, .f (.extract (.t 9) 1)⟩,
    .run ⟨(some 6), none, .e (.alloc [(.int .i64 0), (.int .i64 0), (.sl [] 0 1 .nil)])⟩,
    .run ⟨none, none, .e (.store 3 (.t 6) (.t 13))⟩,
    .run ⟨(some 7), none, .f (.mv (.t 14))⟩])
   (.seq (.seq (.reg [] [.run ⟨(some 15), none, .f (.mv (.t 7))⟩,
    .run ⟨(some 16), none, .f (.bin .eql (.t 15) (.c (.int .i64 0)))⟩])
   (.ite (.t 16)
   (.seq (.reg [] [.run ⟨(some 17), none, .f (.mv (.t 0))⟩,
    .run ⟨(some 18), none, .f (.nilCheck (.t 17))⟩,
    .run ⟨(some 19), none, .f (.fieldAddr 0 (.t 18))⟩,
    .run ⟨(some 20), none, .f (.load false 1 (.t 19))⟩,
    .run ⟨(some 21), none, .f (.len .sl (.t 20))⟩,
    .run ⟨(some 22), none, .f (.bin .sub (.t 21) (.c (.int .i64 1)))⟩,
    .run ⟨(some 23), none, .e (.makeSlice 3 40 true [(.int .i64 0), (.int .i64 0), (.sl [] 0 1 .nil)] (.t 22) (.t 22))⟩,
    .run ⟨(some 8), none, .f (.mv (.t 23))⟩])
   (.seq (.reg [] [.run ⟨(some 24), none, .f (.mv (.t 8))⟩,
    .run ⟨(some 25), none, .f (.mv (.t 0))⟩,
    .run ⟨(some 26), none, .f (.nilCheck (.t 25))⟩,
    .run ⟨(some 27), none, .f (.fieldAddr 0 (.t 26))⟩,
    .run ⟨(some 28), none, .f (.load false 1 (.t 27))⟩,
    .run ⟨(some 29), none, .f (.mv (.t 1))⟩,
    .run ⟨(some 30), none, .f (.slice 3 (.t 28) none (some (.t 29)) none)⟩,
    .run ⟨(some 31), none, .e (.copy 3 (.t 24) (.t 30))⟩])
   (.seq (.reg [0, 1, 2, 3, 4, 5, 6, 7, 8, 9, 10] [.run ⟨(some 32), none, .f (.mv (.t 8))⟩,
    .run ⟨(some 33), none, .f (.mv (.t 1))⟩,
    .run ⟨(some 34), none, .f (.slice 3 (.t 32) (some (.t 33)) none none)⟩,
    .run ⟨(some 35), none, .f (.mv (.t 0))⟩,
    .run ⟨(some 36), none, .f (.nilCheck (.t 35))⟩,
    .run ⟨(some 37), none, .f (.fieldAddr 0 (.t 36))⟩,
    .run ⟨(some 38), none, .f (.load false 1 (.t 37))⟩,
    .run ⟨(some 39), none, .f (.mv (.t 1))⟩,
    .run ⟨(some 40), none, .f (.bin .add (.t 39) (.c (.int .i64 1)))⟩,
    .run ⟨(some 41), none, .f (.slice 3 (.t 38) (some (.t 40)) none none)⟩,
    .run ⟨(some 42), none, .e (.copy 3 (.t 34) (.t 41))⟩])
   (.reg [] [.run ⟨(some 43), none, .f (.mv (.t 0))⟩,
    .run ⟨(some 44), none, .e (.frz (.t 8))⟩,
    .run ⟨(some 45), none, .f (.nilCheck (.t 43))⟩,
    .run ⟨(some 46), none, .f (.fieldAddr 0 (.t 45))⟩,
    .run ⟨none, none, .e (.store 1 (.t 46) (.t 44))⟩]))))
   .skip))
   (.seq (.reg [] [.run ⟨(some 47), none, .f (.load true 3 (.t 6))⟩,
    .run ⟨(some 48), none, .f (.mv (.t 7))⟩,
    .run ⟨none, none, .e (.store 3 (.t 4) (.t 47))⟩,
    .run ⟨(some 5), none, .f (.mv (.t 48))⟩])
   .ret))))
theorem k11 : chkFn Try.prog 11 ⟨b11, [.cell 4 true 3, .tmp 5], 49⟩ = true := by kernel_rfl
/-- fascine/fascineref03.Same -/
def b12 : Cd := (.seq (.reg [] [.run ⟨(some 2), none, .e (.box (.t 0))⟩,
    .run ⟨(some 3), none, .e (.box (.t 1))⟩,
    .run ⟨(some 4), none, .f (.mv (.c (.bool false)))⟩])
   (.seq (.reg [] [.run ⟨(some 5), none, .f (.fieldAddr 0 (.t 2))⟩,
    .run ⟨(some 6), none, .f (.load false 1 (.t 5))⟩,
    .run ⟨(some 7), none, .f (.fieldAddr 0 (.t 3))⟩,
    .run ⟨(some 8), none, .f (.load false 1 (.t 7))⟩,
    .run ⟨(some 9), none, .f (.bin .eql (.t 6) (.t 8))⟩,
    .run ⟨(some 10), none, .f (.mv (.t 9))⟩,
    .run ⟨(some 11), (some (10, true)), .f (.fieldAddr 1 (.t 2))⟩,
    .run ⟨(some 12), (some (10, true)), .f (.load false 1 (.t 11))⟩,
    .run ⟨(some 13), (some (10, true)), .f (.fieldAddr 1 (.t 3))⟩,
    .run ⟨(some 14), (some (10, true)), .f (.load false 1 (.t 13))⟩,
    .run ⟨(some 15), (some (10, true)), .f (.bin .eql (.t 12) (.t 14))⟩,
    .run ⟨(some 16), none, .f (.pick (.t 10) (.t 15) (.c (.bool false)))⟩,
    .run ⟨(some 17), none, .f (.mv (.t 16))⟩,
    .run ⟨(some 18), (some (17, true)), .f (.fieldAddr 2 (.t 2))⟩,
    .run ⟨(some 19), (some (17, true)), .f (.load false 1 (.t 18))⟩,
    .run ⟨(some 20), (some (17, true)), .f (.conv .bytesStr (.t 19))⟩,
    .run ⟨(some 21), (some (17, true)), .f (.fieldAddr 2 (.t 3))⟩,
    .run ⟨(some 22), (some (17, true)), .f (.load false 1 (.t 21))⟩,
    .run ⟨(some 23), (some (17, true)), .f (.conv .bytesStr (.t 22))⟩,
    .run ⟨(some 24), (some (17, true)), .f (.bin .eql (.t 20) (.t 23))⟩,
    .run ⟨(some 25), none, .f (.pick (.t 17) (.t 24) (.c (.bool false)))⟩,
    .run ⟨(some 4), none, .f (.mv (.t 25))⟩])
   .ret))
theorem k12 : chkFn Try.prog 12 ⟨b12, [.tmp 4], 26⟩ = true := by kernel_rfl
/-- (*fascine/wire.Net).At -/
def b13 : Cd := (.seq (.reg [] [.run ⟨(some 4), none, .e (.alloc [(.int .i64 0), (.int .i64 0), (.sl [] 0 1 .nil)])⟩,
    .run ⟨(some 5), none, .f (.mv (.c (.int .i64 0)))⟩])
   (.seq (.seq (.reg [] [.run ⟨(some 6), none, .f (.mv (.t 1))⟩,
    .run ⟨(some 7), none, .f (.bin .lss (.t 6) (.c (.int .i64 0)))⟩,
    .run ⟨(some 8), none, .f (.mv (.t 7))⟩,
    .run ⟨(some 9), (some (8, false)), .f (.mv (.t 1))⟩,
    .run ⟨(some 10), (some (8, false)), .f (.mv (.t 0))⟩,
    .run ⟨(some 11), (some (8, false)), .e (.call 10 [(.t 10)])⟩,
    .run ⟨(some 12), (some (8, false)), .f (.bin .geq (.t 9) (.t 11))⟩,
    .run ⟨(some 13), none, .f (.pick (.t 8) (.c (.bool true)) (.t 12))⟩])
   (.ite (.t 13)
   (.seq (.reg [] [.run ⟨(some 14), none, .f (.build [(.int .i64 0), (.int .i64 0), (.sl [] 0 1 .nil)] [])⟩,
    .run ⟨none, none, .e (.store 3 (.t 4) (.t 14))⟩,
    .run ⟨(some 5), none, .f (.mv (.c (.int .i64 8)))⟩])
   .ret)
   .skip))
   (.seq (.reg [] [.run ⟨(some 15), none, .f (.mv (.t 0))⟩,
    .run ⟨(some 16), none, .f (.nilCheck (.t 15))⟩,
    .run ⟨(some 17), none, .f (.fieldAddr 0 (.t 16))⟩,
    .run ⟨(some 18), none, .f (.load false 1 (.t 17))⟩,
    .run ⟨(some 19), none, .f (.mv (.t 1))⟩,
    .run ⟨(some 20), none, .f (.indexAddr 3 (.t 18) (.t 19))⟩,
    .run ⟨(some 21), none, .f (.load true 3 (.t 20))⟩,
    .run ⟨(some 22), none, .e (.call 16 [(.t 21)])⟩,
    .run ⟨none, none, .e (.store 3 (.t 4) (.t 22))⟩,
    .run ⟨(some 5), none, .f (.mv (.c (.int .i64 0)))⟩])
   .ret)))
theorem k13 : chkFn Try.prog 13 ⟨b13, [.cell 4 true 3, .tmp 5], 23⟩ = true := by kernel_rfl
/-- fascine/fascineref03.Without -/
def l14_0 : Cd := (.seq (.seq (.reg [] [.run ⟨(some 7), none, .f (.mv (.t 6))⟩,
    .run ⟨(some 8), none, .f (.mv (.t 0))⟩,
    .run ⟨(some 9), none, .f (.len .sl (.t 8))⟩,
    .run ⟨(some 10), none, .f (.bin .lss (.t 7) (.t 9))⟩])
   (.ite (.t 10)
   .skip
   (.exit 0)))
   (.seq (.blk 1 (.seq (.reg [] [.run ⟨(some 13), none, .f (.mv (.t 6))⟩,
    .run ⟨(some 14), none, .f (.mv (.t 1))⟩,
    .run ⟨(some 15), none, .f (.bin .neq (.t 13) (.t 14))⟩])
   (.ite (.t 15)
   (.reg [] [.run ⟨(some 16), none, .f (.mv (.t 5))⟩,
    .run ⟨(some 17), none, .f (.mv (.t 0))⟩,
    .run ⟨(some 18), none, .f (.mv (.t 6))⟩,
    .run ⟨(some 19), none, .f (.indexAddr 3 (.t 17) (.t 18))⟩,
    .run ⟨(some 20), none, .f (.load true 3 (.t 19))⟩,
    .run ⟨(some 21), none, .e (.buildSlice 1 3 0 [(.int .i64 0), (.int .i64 0), (.sl [] 0 1 .nil)] [(0, 3, (.t 20))])⟩,
    .run ⟨(some 22), none, .e (.append 3 40 false (.t 16) (.t 21))⟩,
    .run ⟨(some 5), none, .f (.mv (.t 22))⟩])
   .skip)))
   (.reg [] [.run ⟨(some 11), none, .f (.mv (.t 6))⟩,
    .run ⟨(some 12), none, .f (.bin .add (.t 11) (.c (.int .i64 1)))⟩,
    .run ⟨(some 6), none, .f (.mv (.t 12))⟩])))
def b14 : Cd := (.seq (.reg [] [.run ⟨(some 4), none, .f (.mv (.c (.sl [] 0 3 .nil)))⟩])
   (.seq (.reg [] [.run ⟨(some 5), none, .f (.mv (.c (.sl [] 0 3 .nil)))⟩])
   (.seq (.seq (.reg [] [.run ⟨(some 6), none, .f (.mv (.c (.int .i64 0)))⟩])
   (.blk 0 (.loop l14_0)))
   (.seq (.reg [] [.run ⟨(some 23), none, .f (.mv (.t 5))⟩,
    .run ⟨(some 4), none, .f (.mv (.t 23))⟩])
   .ret))))
theorem k14 : chkFn Try.prog 14 ⟨b14, [.tmp 4], 24⟩ = true := by kernel_rfl
/-- (*fascine/wire.Net).Copy -/
def b15 : Cd := (.seq (.reg [] [.run ⟨(some 4), none, .f (.mv (.c (.int .i64 0)))⟩])
   (.seq (.reg [] [.run ⟨(some 8), none, .f (.mv (.t 0))⟩,
    .run ⟨(some 9), none, .f (.mv (.t 1))⟩,
    .run ⟨(some 10), none, .e (.call 13 [(.t 8), (.t 9)])⟩,
    .run ⟨(some 7), none, .f (.mv (.t 10))⟩,
    .run ⟨(some 11), none, .f (.extract (.t 7) 0)⟩,
    .run ⟨(some 12), none, .f (.extract (.t 7) 1)⟩,
    .run ⟨(some 5), none, .e (.alloc [(.int .i64 0), (.int .i64 0), (.sl [] 0 1 .nil)])⟩,
    .run ⟨none, none, .e (.store 3 (.t 5) (.t 11))⟩,
    .run ⟨(some 6), none, .f (.mv (.t 12))⟩])
   (.seq (.seq (.reg [] [.run ⟨(some 13), none, .f (.mv (.t 6))⟩,
    .run ⟨(some 14), none, .f (.bin .eql (.t 13) (.c (.int .i64 0)))⟩])
   (.ite (.t 14)
   (.reg [0, 1, 2, 3, 4, 5, 6, 4, 7, 8, 9, 10] [.run ⟨(some 15), none, .f (.mv (.t 0))⟩,
    .run ⟨(some 16), none, .f (.mv (.t 0))⟩,
    .run ⟨(some 17), none, .f (.nilCheck (.t 16))⟩,
    .run ⟨(some 18), none, .f (.fieldAddr 0 (.t 17))⟩,
    .run ⟨(some 19), none, .f (.load false 1 (.t 18))⟩,
    .run ⟨(some 20), none, .f (.load true 3 (.t 5))⟩,
    .run ⟨(some 21), none, .e (.buildSlice 1 3 0 [(.int .i64 0), (.int .i64 0), (.sl [] 0 1 .nil)] [(0, 3, (.t 20))])⟩,
    .chk 19 none (.load false 1 (.t 18)),
    .run ⟨(some 22), none, .e (.append 3 40 false (.t 19) (.t 21))⟩,
    .run ⟨(some 23), none, .f (.nilCheck (.t 15))⟩,
    .run ⟨(some 24), none, .f (.fieldAddr 0 (.t 23))⟩,
    .run ⟨none, none, .e (.store 1 (.t 24) (.t 22))⟩])
   .skip))
   (.seq (.reg [] [.run ⟨(some 25), none, .f (.mv (.t 6))⟩,
    .run ⟨(some 4), none, .f (.mv (.t 25))⟩])
   .ret))))
theorem k15 : chkFn Try.prog 15 ⟨b15, [.tmp 4], 26⟩ = true := by kernel_rfl
/-- fascine/wire.copied -/
def b16 : Cd := (.seq (.reg [] [.run ⟨(some 1), none, .e (.box (.t 0))⟩,
    .run ⟨(some 2), none, .e (.alloc [(.int .i64 0), (.int .i64 0), (.sl [] 0 1 .nil)])⟩])
   (.seq (.reg [] [.run ⟨(some 3), none, .f (.fieldAddr 2 (.t 1))⟩,
    .run ⟨(some 4), none, .f (.load false 1 (.t 3))⟩,
    .run ⟨(some 5), none, .e (.append 1 1 false (.c (.sl [] 0 1 .nil)) (.t 4))⟩,
    .run ⟨(some 6), none, .f (.fieldAddr 2 (.t 1))⟩,
    .run ⟨none, none, .e (.store 1 (.t 6) (.t 5))⟩])
   (.seq (.reg [] [.run ⟨(some 7), none, .f (.load true 3 (.t 1))⟩,
    .run ⟨none, none, .e (.store 3 (.t 2) (.t 7))⟩])
   .ret)))
theorem k16 : chkFn Try.prog 16 ⟨b16, [.cell 2 true 3], 8⟩ = true := by kernel_rfl
/-- fascine/wire.copied -/
def b16v1 : Cd := (.seq (.reg [] [.run ⟨(some 1), none, .e (.box (.t 0))⟩,
    .run ⟨(some 2), none, .e (.alloc [(.int .i64 0), (.int .i64 0), (.sl [] 0 1 .nil)])⟩])
   (.seq (.reg [] [.run ⟨(some 3), none, .f (.fieldAddr 2 (.t 1))⟩,
    .run ⟨(some 4), none, .f (.load false 1 (.t 3))⟩,
    .run ⟨(some 5), none, .e (.append 1 1 true (.c (.sl [] 0 1 .nil)) (.t 4))⟩,
    .run ⟨(some 6), none, .f (.fieldAddr 2 (.t 1))⟩,
    .run ⟨none, none, .e (.store 1 (.t 6) (.t 5))⟩])
   (.seq (.reg [] [.run ⟨(some 7), none, .f (.load true 3 (.t 1))⟩,
    .run ⟨none, none, .e (.store 3 (.t 2) (.t 7))⟩])
   .ret)))
theorem k16v1 : chkFn Try.prog 16 ⟨b16v1, [.cell 2 true 3], 8⟩ = true := by kernel_rfl
end Go.VM
