/-
  The codes of functions, as the value machine has them, and that they stand for the model's (printed by a program, wip/gen).
-/
import Derived.Test.YtddjanglghgoeaaDCodes
import Derived.Test.YtddjanglghgoeaaProg
import Derived.KernelRfl
set_option linter.unusedVariables false
set_option maxRecDepth 100000
namespace Go.VM
open Go Go.Proofs

/-- fascine/fascinelaw04.WalAgain -/
abbrev n_l04_WalAgain : Nat := 11
def b_l04_WalAgain : Cd := (.seq (.reg [] [.run ⟨(some 8), none, .f (.mv (.c (.bool false)))⟩])
   (.seq (.seq (.reg [] [.run ⟨(some 16), none, .e (.call 34 [])⟩,
    .run ⟨(some 17), none, .f (.un .not (.t 16))⟩,
    .run ⟨(some 18), none, .f (.mv (.t 17))⟩,
    .run ⟨(some 19), (some (18, false)), .f (.mv (.t 0))⟩,
    .run ⟨(some 20), (some (18, false)), .f (.len .sl (.t 19))⟩,
    .run ⟨(some 21), (some (18, false)), .f (.mv (.t 1))⟩,
    .run ⟨(some 22), (some (18, false)), .f (.len .sl (.t 21))⟩,
    .run ⟨(some 23), (some (18, false)), .f (.bin .add (.t 20) (.t 22))⟩,
    .run ⟨(some 24), (some (18, false)), .f (.mv (.t 2))⟩,
    .run ⟨(some 25), (some (18, false)), .f (.len .sl (.t 24))⟩,
    .run ⟨(some 26), (some (18, false)), .f (.bin .add (.t 23) (.t 25))⟩,
    .run ⟨(some 27), (some (18, false)), .f (.bin .gtr (.t 26) (.c (.int .i64 3000)))⟩,
    .run ⟨(some 28), none, .f (.pick (.t 18) (.c (.bool true)) (.t 27))⟩])
   (.ite (.t 28)
   (.seq (.reg [] [.run ⟨(some 29), none, .e (.call 34 [])⟩,
    .run ⟨(some 8), none, .f (.mv (.t 29))⟩])
   .ret)
   .skip))
   (.seq (.reg [] [.run ⟨(some 31), none, .e (.call 18 [(.c (.int .i64 65536))])⟩,
    .run ⟨(some 30), none, .f (.mv (.t 31))⟩,
    .run ⟨(some 32), none, .f (.extract (.t 30) 0)⟩,
    .run ⟨(some 33), none, .f (.extract (.t 30) 1)⟩,
    .run ⟨(some 9), none, .f (.mv (.t 32))⟩,
    .run ⟨(some 10), none, .f (.mv (.t 33))⟩])
   (.seq (.reg [] [.run ⟨(some 35), none, .f (.mv (.t 9))⟩,
    .run ⟨(some 36), none, .e (.call 38 [(.t 35), (.c (.str (mkS [108, 111, 103])))])⟩,
    .run ⟨(some 34), none, .f (.mv (.t 36))⟩,
    .run ⟨(some 37), none, .f (.extract (.t 34) 0)⟩,
    .run ⟨(some 38), none, .f (.extract (.t 34) 1)⟩,
    .run ⟨(some 11), none, .f (.mv (.t 37))⟩,
    .run ⟨(some 12), none, .f (.mv (.t 38))⟩])
   (.seq (.seq (.reg [] [.run ⟨(some 39), none, .f (.mv (.t 11))⟩,
    .run ⟨(some 40), none, .f (.mv (.t 0))⟩,
    .run ⟨(some 41), none, .e (.call 39 [(.t 39), (.t 40)])⟩,
    .run ⟨(some 42), none, .f (.bin .neq (.t 41) (.c (.int .i64 0)))⟩,
    .run ⟨(some 43), none, .f (.mv (.t 42))⟩,
    .run ⟨(some 44), (some (43, false)), .f (.mv (.t 11))⟩,
    .run ⟨(some 45), (some (43, false)), .e (.call 40 [(.t 44)])⟩,
    .run ⟨(some 46), (some (43, false)), .f (.bin .neq (.t 45) (.c (.int .i64 0)))⟩,
    .run ⟨(some 47), none, .f (.pick (.t 43) (.c (.bool true)) (.t 46))⟩,
    .run ⟨(some 48), none, .f (.mv (.t 47))⟩,
    .run ⟨(some 49), (some (48, false)), .f (.mv (.t 11))⟩,
    .run ⟨(some 50), (some (48, false)), .f (.mv (.t 1))⟩,
    .run ⟨(some 51), (some (48, false)), .e (.call 39 [(.t 49), (.t 50)])⟩,
    .run ⟨(some 52), (some (48, false)), .f (.bin .neq (.t 51) (.c (.int .i64 0)))⟩,
    .run ⟨(some 53), none, .f (.pick (.t 48) (.c (.bool true)) (.t 52))⟩])
   (.ite (.t 53)
   (.seq (.reg [] [.run ⟨(some 8), none, .f (.mv (.c (.bool false)))⟩])
   .ret)
   .skip))
   (.seq (.reg [] [.run ⟨(some 54), none, .f (.mv (.t 9))⟩,
    .run ⟨(some 55), none, .f (.mv (.t 3))⟩,
    .run ⟨(some 56), none, .e (.buildSlice 1 1 0 [(.int .i64 0)] [(0, 1, (.t 55))])⟩,
    .run ⟨(some 57), none, .e (.call 22 [(.t 54), (.t 56)])⟩])
   (.seq (.reg [] [.run ⟨(some 59), none, .f (.mv (.t 9))⟩,
    .run ⟨(some 60), none, .e (.call 38 [(.t 59), (.c (.str (mkS [108, 111, 103])))])⟩,
    .run ⟨(some 58), none, .f (.mv (.t 60))⟩,
    .run ⟨(some 61), none, .f (.extract (.t 58) 0)⟩,
    .run ⟨(some 62), none, .f (.extract (.t 58) 1)⟩,
    .run ⟨(some 11), none, .f (.mv (.t 61))⟩,
    .run ⟨(some 13), none, .f (.mv (.t 62))⟩])
   (.seq (.seq (.reg [] [.run ⟨(some 63), none, .f (.mv (.t 13))⟩,
    .run ⟨(some 64), none, .f (.bin .neq (.t 63) (.c (.int .i64 0)))⟩])
   (.ite (.t 64)
   (.seq (.reg [] [.run ⟨(some 8), none, .f (.mv (.c (.bool false)))⟩])
   .ret)
   .skip))
   (.seq (.reg [] [.run ⟨(some 65), none, .f (.mv (.t 11))⟩,
    .run ⟨(some 66), none, .e (.call 41 [(.t 65)])⟩,
    .run ⟨(some 14), none, .f (.mv (.t 66))⟩])
   (.seq (.seq (.reg [] [.run ⟨(some 67), none, .f (.mv (.t 14))⟩,
    .run ⟨(some 68), none, .f (.bin .lss (.t 67) (.c (.int .i64 1)))⟩,
    .run ⟨(some 69), none, .f (.mv (.t 68))⟩,
    .run ⟨(some 70), (some (69, false)), .f (.mv (.t 14))⟩,
    .run ⟨(some 71), (some (69, false)), .f (.bin .gtr (.t 70) (.c (.int .i64 2)))⟩,
    .run ⟨(some 72), none, .f (.pick (.t 69) (.c (.bool true)) (.t 71))⟩,
    .run ⟨(some 73), none, .f (.mv (.t 72))⟩,
    .run ⟨(some 74), (some (73, false)), .f (.mv (.t 11))⟩,
    .run ⟨(some 75), (some (73, false)), .f (.mv (.t 2))⟩,
    .run ⟨(some 76), (some (73, false)), .e (.call 39 [(.t 74), (.t 75)])⟩,
    .run ⟨(some 77), (some (73, false)), .f (.bin .neq (.t 76) (.c (.int .i64 0)))⟩,
    .run ⟨(some 78), none, .f (.pick (.t 73) (.c (.bool true)) (.t 77))⟩,
    .run ⟨(some 79), none, .f (.mv (.t 78))⟩,
    .run ⟨(some 80), (some (79, false)), .f (.mv (.t 11))⟩,
    .run ⟨(some 81), (some (79, false)), .e (.call 40 [(.t 80)])⟩,
    .run ⟨(some 82), (some (79, false)), .f (.bin .neq (.t 81) (.c (.int .i64 0)))⟩,
    .run ⟨(some 83), none, .f (.pick (.t 79) (.c (.bool true)) (.t 82))⟩])
   (.ite (.t 83)
   (.seq (.reg [] [.run ⟨(some 8), none, .f (.mv (.c (.bool false)))⟩])
   .ret)
   .skip))
   (.seq (.reg [] [.run ⟨(some 84), none, .f (.mv (.t 9))⟩,
    .run ⟨(some 85), none, .e (.call 22 [(.t 84), (.c (.sl [] 0 1 .nil))])⟩])
   (.seq (.reg [] [.run ⟨(some 87), none, .f (.mv (.t 9))⟩,
    .run ⟨(some 88), none, .e (.call 38 [(.t 87), (.c (.str (mkS [108, 111, 103])))])⟩,
    .run ⟨(some 86), none, .f (.mv (.t 88))⟩,
    .run ⟨(some 89), none, .f (.extract (.t 86) 0)⟩,
    .run ⟨(some 90), none, .f (.extract (.t 86) 1)⟩,
    .run ⟨(some 11), none, .f (.mv (.t 89))⟩,
    .run ⟨(some 13), none, .f (.mv (.t 90))⟩])
   (.seq (.reg [] [.run ⟨(some 91), none, .f (.mv (.t 11))⟩,
    .run ⟨(some 92), none, .e (.call 42 [(.t 91)])⟩,
    .run ⟨(some 15), none, .f (.mv (.t 92))⟩])
   (.seq (.reg [0, 1, 2, 3, 4, 5, 6, 7, 8, 9, 10, 11, 12, 13, 14, 15, 16, 17, 18, 19, 20, 21, 22, 23, 24, 25, 26, 27, 28, 29, 30, 31, 32, 33, 34, 35, 36, 37, 38, 39, 40, 41] [.run ⟨(some 93), none, .f (.mv (.t 13))⟩,
    .run ⟨(some 94), none, .f (.bin .eql (.t 93) (.c (.int .i64 0)))⟩,
    .run ⟨(some 95), none, .f (.mv (.t 94))⟩,
    .run ⟨(some 96), (some (95, true)), .f (.mv (.t 15))⟩,
    .run ⟨(some 97), (some (95, true)), .f (.len .sl (.t 96))⟩,
    .run ⟨(some 98), (some (95, true)), .f (.mv (.t 14))⟩,
    .run ⟨(some 99), (some (95, true)), .f (.bin .add (.t 98) (.c (.int .i64 1)))⟩,
    .run ⟨(some 100), (some (95, true)), .f (.bin .eql (.t 97) (.t 99))⟩,
    .run ⟨(some 101), none, .f (.pick (.t 95) (.t 100) (.c (.bool false)))⟩,
    .run ⟨(some 102), none, .f (.mv (.t 101))⟩,
    .run ⟨(some 103), (some (102, true)), .f (.mv (.t 15))⟩,
    .run ⟨(some 104), (some (102, true)), .f (.indexAddr 1 (.t 103) (.c (.int .i64 0)))⟩,
    .run ⟨(some 105), (some (102, true)), .f (.load false 1 (.t 104))⟩,
    .run ⟨(some 106), (some (102, true)), .f (.conv .bytesStr (.t 105))⟩,
    .run ⟨(some 107), (some (102, true)), .f (.mv (.t 0))⟩,
    .run ⟨(some 108), (some (102, true)), .f (.conv .bytesStr (.t 107))⟩,
    .run ⟨(some 109), (some (102, true)), .f (.bin .eql (.t 106) (.t 108))⟩,
    .run ⟨(some 110), none, .f (.pick (.t 102) (.t 109) (.c (.bool false)))⟩,
    .run ⟨(some 111), none, .f (.mv (.t 110))⟩,
    .run ⟨(some 112), (some (111, true)), .f (.mv (.t 14))⟩,
    .run ⟨(some 113), (some (111, true)), .f (.bin .eql (.t 112) (.c (.int .i64 1)))⟩,
    .run ⟨(some 114), (some (111, true)), .f (.mv (.t 113))⟩,
    .run ⟨(some 115), (some (114, false)), .f (.mv (.t 15))⟩,
    .run ⟨(some 116), (some (114, false)), .f (.indexAddr 1 (.t 115) (.c (.int .i64 1)))⟩,
    .run ⟨(some 117), (some (114, false)), .f (.load false 1 (.t 116))⟩,
    .run ⟨(some 118), (some (114, false)), .f (.conv .bytesStr (.t 117))⟩,
    .run ⟨(some 119), (some (114, false)), .f (.mv (.t 1))⟩,
    .run ⟨(some 120), (some (114, false)), .f (.conv .bytesStr (.t 119))⟩,
    .run ⟨(some 121), (some (114, false)), .f (.bin .eql (.t 118) (.t 120))⟩,
    .run ⟨(some 122), (some (111, true)), .f (.pick (.t 114) (.c (.bool true)) (.t 121))⟩,
    .run ⟨(some 123), none, .f (.pick (.t 111) (.t 122) (.c (.bool false)))⟩,
    .run ⟨(some 124), none, .f (.mv (.t 123))⟩,
    .run ⟨(some 125), (some (124, true)), .f (.mv (.t 15))⟩,
    .run ⟨(some 126), (some (124, true)), .f (.mv (.t 14))⟩,
    .run ⟨(some 127), (some (124, true)), .f (.indexAddr 1 (.t 125) (.t 126))⟩,
    .run ⟨(some 128), (some (124, true)), .f (.load false 1 (.t 127))⟩,
    .run ⟨(some 129), (some (124, true)), .f (.conv .bytesStr (.t 128))⟩,
    .run ⟨(some 130), (some (124, true)), .f (.mv (.t 2))⟩,
    .run ⟨(some 131), (some (124, true)), .f (.conv .bytesStr (.t 130))⟩,
    .run ⟨(some 132), (some (124, true)), .f (.bin .eql (.t 129) (.t 131))⟩,
    .run ⟨(some 133), none, .f (.pick (.t 124) (.t 132) (.c (.bool false)))⟩,
    .run ⟨(some 8), none, .f (.mv (.t 133))⟩])
   .ret))))))))))))))
theorem k_l04_WalAgain : chkFn Try.prog n_l04_WalAgain ⟨b_l04_WalAgain, [.tmp 8], 134⟩ = true := by kernel_rfl
/-- fascine/fascinelaw04.WalCrashes -/
abbrev n_l04_WalCrashes : Nat := 14
def l_l04_WalCrashes_0 : Cd := (.seq (.seq (.reg [] [.run ⟨(some 60), none, .f (.mv (.t 16))⟩,
    .run ⟨(some 61), none, .f (.mv (.t 0))⟩,
    .run ⟨(some 62), none, .f (.len .sl (.t 61))⟩,
    .run ⟨(some 63), none, .f (.bin .lss (.t 60) (.t 62))⟩])
   (.ite (.t 63)
   .skip
   (.exit 0)))
   (.seq (.blk 1 (.seq (.seq (.reg [] [.run ⟨(some 66), none, .f (.mv (.t 13))⟩,
    .run ⟨(some 67), none, .f (.mv (.t 0))⟩,
    .run ⟨(some 68), none, .f (.mv (.t 16))⟩,
    .run ⟨(some 69), none, .f (.indexAddr 1 (.t 67) (.t 68))⟩,
    .run ⟨(some 70), none, .f (.load false 1 (.t 69))⟩,
    .run ⟨(some 71), none, .e (.call 39 [(.t 66), (.t 70)])⟩,
    .run ⟨(some 72), none, .f (.bin .neq (.t 71) (.c (.int .i64 0)))⟩])
   (.ite (.t 72)
   (.seq (.reg [] [.run ⟨(some 10), none, .f (.mv (.c (.bool false)))⟩])
   .ret)
   .skip))
   (.reg [] [.run ⟨(some 73), none, .f (.mv (.t 15))⟩,
    .run ⟨(some 74), none, .f (.mv (.t 0))⟩,
    .run ⟨(some 75), none, .f (.mv (.t 16))⟩,
    .run ⟨(some 76), none, .f (.indexAddr 1 (.t 74) (.t 75))⟩,
    .run ⟨(some 77), none, .f (.load false 1 (.t 76))⟩,
    .run ⟨(some 78), none, .e (.buildSlice 1 1 0 [(.sl [] 0 1 .nil)] [(0, 1, (.t 77))])⟩,
    .run ⟨(some 79), none, .e (.append 1 24 false (.t 73) (.t 78))⟩,
    .run ⟨(some 15), none, .f (.mv (.t 79))⟩])))
   (.reg [] [.run ⟨(some 64), none, .f (.mv (.t 16))⟩,
    .run ⟨(some 65), none, .f (.bin .add (.t 64) (.c (.int .i64 1)))⟩,
    .run ⟨(some 16), none, .f (.mv (.t 65))⟩])))
def l_l04_WalCrashes_1 : Cd := (.seq (.seq (.reg [] [.run ⟨(some 90), none, .f (.mv (.t 18))⟩,
    .run ⟨(some 91), none, .f (.mv (.t 1))⟩,
    .run ⟨(some 92), none, .f (.len .sl (.t 91))⟩,
    .run ⟨(some 93), none, .f (.bin .lss (.t 90) (.t 92))⟩])
   (.ite (.t 93)
   .skip
   (.exit 2)))
   (.seq (.blk 3 (.seq (.reg [] [.run ⟨(some 96), none, .f (.mv (.t 15))⟩,
    .run ⟨(some 97), none, .f (.mv (.t 1))⟩,
    .run ⟨(some 98), none, .f (.mv (.t 18))⟩,
    .run ⟨(some 99), none, .f (.indexAddr 1 (.t 97) (.t 98))⟩,
    .run ⟨(some 100), none, .f (.load false 1 (.t 99))⟩,
    .run ⟨(some 101), none, .e (.buildSlice 1 1 0 [(.sl [] 0 1 .nil)] [(0, 1, (.t 100))])⟩,
    .run ⟨(some 102), none, .e (.append 1 24 false (.t 96) (.t 101))⟩,
    .run ⟨(some 15), none, .f (.mv (.t 102))⟩])
   (.reg [] [.run ⟨(some 103), none, .f (.mv (.t 13))⟩,
    .run ⟨(some 104), none, .f (.mv (.t 1))⟩,
    .run ⟨(some 105), none, .f (.mv (.t 18))⟩,
    .run ⟨(some 106), none, .f (.indexAddr 1 (.t 104) (.t 105))⟩,
    .run ⟨(some 107), none, .f (.load false 1 (.t 106))⟩,
    .run ⟨(some 108), none, .e (.call 39 [(.t 103), (.t 107)])⟩])))
   (.reg [] [.run ⟨(some 94), none, .f (.mv (.t 18))⟩,
    .run ⟨(some 95), none, .f (.bin .add (.t 94) (.c (.int .i64 1)))⟩,
    .run ⟨(some 18), none, .f (.mv (.t 95))⟩])))
def r_l04_WalCrashes_0 : Cd := (.seq (.reg [] [.run ⟨(some 114), none, .f (.mv (.t 0))⟩,
    .run ⟨(some 115), none, .f (.len .sl (.t 114))⟩,
    .run ⟨(some 116), none, .f (.bin .quo (.t 115) (.c (.int .i64 2)))⟩,
    .run ⟨(some 19), none, .f (.mv (.t 116))⟩])
   (.seq (.reg [] [.run ⟨(some 20), none, .f (.mv (.c (.sl [] 0 1 .nil)))⟩])
   (.seq (.reg [] [.run ⟨(some 117), none, .f (.mv (.t 20))⟩,
    .run ⟨(some 118), none, .f (.mv (.t 0))⟩,
    .run ⟨(some 119), none, .f (.mv (.t 19))⟩,
    .run ⟨(some 120), none, .f (.slice 1 (.t 118) none (some (.t 119)) none)⟩,
    .run ⟨(some 121), none, .e (.append 1 24 false (.t 117) (.t 120))⟩,
    .run ⟨(some 20), none, .f (.mv (.t 121))⟩])
   (.seq (.reg [] [.run ⟨(some 122), none, .f (.mv (.t 20))⟩,
    .run ⟨(some 123), none, .f (.mv (.t 2))⟩,
    .run ⟨(some 124), none, .e (.append 1 24 false (.t 122) (.t 123))⟩,
    .run ⟨(some 20), none, .f (.mv (.t 124))⟩])
   (.seq (.reg [] [.run ⟨(some 125), none, .f (.mv (.t 13))⟩,
    .run ⟨(some 126), none, .f (.mv (.t 19))⟩,
    .run ⟨(some 127), none, .f (.mv (.t 2))⟩,
    .run ⟨(some 128), none, .e (.call 44 [(.t 125), (.t 126), (.t 127)])⟩,
    .run ⟨(some 129), none, .f (.bin .eql (.t 128) (.c (.int .i64 0)))⟩,
    .run ⟨(some 21), none, .f (.mv (.t 129))⟩])
   (.seq (.reg [] [.run ⟨(some 130), none, .f (.mv (.t 11))⟩,
    .run ⟨(some 131), none, .f (.mv (.t 4))⟩,
    .run ⟨(some 132), none, .e (.call 22 [(.t 130), (.t 131)])⟩])
   (.seq (.reg [] [.run ⟨(some 134), none, .f (.mv (.t 11))⟩,
    .run ⟨(some 135), none, .e (.call 38 [(.t 134), (.c (.str (mkS [108, 111, 103])))])⟩,
    .run ⟨(some 133), none, .f (.mv (.t 135))⟩,
    .run ⟨(some 136), none, .f (.extract (.t 133) 0)⟩,
    .run ⟨(some 137), none, .f (.extract (.t 133) 1)⟩,
    .run ⟨(some 13), none, .f (.mv (.t 136))⟩,
    .run ⟨(some 14), none, .f (.mv (.t 137))⟩])
   (.seq (.seq (.reg [] [.run ⟨(some 138), none, .f (.mv (.t 14))⟩,
    .run ⟨(some 139), none, .f (.bin .neq (.t 138) (.c (.int .i64 0)))⟩])
   (.ite (.t 139)
   (.seq (.reg [] [.run ⟨(some 10), none, .f (.mv (.c (.bool false)))⟩])
   .ret)
   .skip))
   (.seq (.reg [] [.run ⟨(some 140), none, .f (.mv (.t 13))⟩,
    .run ⟨(some 141), none, .e (.call 42 [(.t 140)])⟩,
    .run ⟨(some 22), none, .f (.mv (.t 141))⟩])
   (.seq (.seq (.reg [] [.run ⟨(some 142), none, .f (.mv (.t 21))⟩])
   (.ite (.t 142)
   (.seq (.reg [] [.run ⟨(some 143), none, .f (.mv (.t 22))⟩,
    .run ⟨(some 144), none, .f (.mv (.t 20))⟩,
    .run ⟨(some 145), none, .e (.call 37 [(.t 143), (.t 144)])⟩,
    .run ⟨(some 10), none, .f (.mv (.t 145))⟩])
   .ret)
   .skip))
   (.seq (.reg [] [.run ⟨(some 146), none, .f (.mv (.t 22))⟩,
    .run ⟨(some 147), none, .f (.mv (.t 15))⟩,
    .run ⟨(some 148), none, .f (.mv (.t 17))⟩,
    .run ⟨(some 149), none, .e (.call 45 [(.t 146), (.t 147), (.t 148)])⟩,
    .run ⟨(some 150), none, .f (.mv (.t 149))⟩,
    .run ⟨(some 151), (some (150, false)), .f (.mv (.t 22))⟩,
    .run ⟨(some 152), (some (150, false)), .f (.mv (.t 20))⟩,
    .run ⟨(some 153), (some (150, false)), .e (.call 37 [(.t 151), (.t 152)])⟩,
    .run ⟨(some 154), none, .f (.pick (.t 150) (.c (.bool true)) (.t 153))⟩,
    .run ⟨(some 10), none, .f (.mv (.t 154))⟩])
   .ret)))))))))))
def s_l04_WalCrashes_0 : Cd := (.seq (.seq (.reg [] [.run ⟨(some 109), none, .f (.mv (.t 13))⟩,
    .run ⟨(some 110), none, .e (.call 40 [(.t 109)])⟩,
    .run ⟨(some 111), none, .f (.bin .eql (.t 110) (.c (.int .i64 0)))⟩])
   (.ite (.t 111)
   (.reg [] [.run ⟨(some 112), none, .f (.mv (.t 15))⟩,
    .run ⟨(some 113), none, .f (.len .sl (.t 112))⟩,
    .run ⟨(some 17), none, .f (.mv (.t 113))⟩])
   .skip))
   r_l04_WalCrashes_0)
def s_l04_WalCrashes_1 : Cd := (.seq (.seq (.reg [] [.run ⟨(some 80), none, .f (.mv (.t 13))⟩,
    .run ⟨(some 81), none, .e (.call 40 [(.t 80)])⟩,
    .run ⟨(some 82), none, .f (.bin .neq (.t 81) (.c (.int .i64 0)))⟩])
   (.ite (.t 82)
   (.seq (.reg [] [.run ⟨(some 10), none, .f (.mv (.c (.bool false)))⟩])
   .ret)
   .skip))
   (.seq (.reg [] [.run ⟨(some 83), none, .f (.mv (.t 15))⟩,
    .run ⟨(some 84), none, .f (.len .sl (.t 83))⟩,
    .run ⟨(some 17), none, .f (.mv (.t 84))⟩])
   (.seq (.reg [] [.run ⟨(some 85), none, .f (.mv (.t 11))⟩,
    .run ⟨(some 86), none, .f (.mv (.t 3))⟩,
    .run ⟨(some 87), none, .f (.conv (.int .i64) (.t 86))⟩,
    .run ⟨(some 88), none, .f (.bin .rem (.t 87) (.c (.int .i64 12)))⟩,
    .run ⟨(some 89), none, .e (.call 24 [(.t 85), (.t 88)])⟩])
   (.seq (.seq (.reg [] [.run ⟨(some 18), none, .f (.mv (.c (.int .i64 0)))⟩])
   (.blk 2 (.loop l_l04_WalCrashes_1)))
   s_l04_WalCrashes_0))))
def b_l04_WalCrashes : Cd := (.seq (.reg [] [.run ⟨(some 10), none, .f (.mv (.c (.bool false)))⟩])
   (.seq (.seq (.reg [] [.run ⟨(some 23), none, .e (.call 34 [])⟩,
    .run ⟨(some 24), none, .f (.un .not (.t 23))⟩,
    .run ⟨(some 25), none, .f (.mv (.t 24))⟩,
    .run ⟨(some 26), (some (25, false)), .f (.mv (.t 0))⟩,
    .run ⟨(some 27), (some (25, false)), .f (.len .sl (.t 26))⟩,
    .run ⟨(some 28), (some (25, false)), .f (.mv (.t 1))⟩,
    .run ⟨(some 29), (some (25, false)), .f (.len .sl (.t 28))⟩,
    .run ⟨(some 30), (some (25, false)), .f (.bin .add (.t 27) (.t 29))⟩,
    .run ⟨(some 31), (some (25, false)), .f (.mv (.t 2))⟩,
    .run ⟨(some 32), (some (25, false)), .f (.len .sl (.t 31))⟩,
    .run ⟨(some 33), (some (25, false)), .f (.bin .add (.t 30) (.t 32))⟩,
    .run ⟨(some 34), (some (25, false)), .f (.bin .gtr (.t 33) (.c (.int .i64 30)))⟩,
    .run ⟨(some 35), none, .f (.pick (.t 25) (.c (.bool true)) (.t 34))⟩,
    .run ⟨(some 36), none, .f (.mv (.t 35))⟩,
    .run ⟨(some 37), (some (36, false)), .f (.mv (.t 0))⟩,
    .run ⟨(some 38), (some (36, false)), .e (.call 43 [(.t 37)])⟩,
    .run ⟨(some 39), none, .f (.pick (.t 36) (.c (.bool true)) (.t 38))⟩,
    .run ⟨(some 40), none, .f (.mv (.t 39))⟩,
    .run ⟨(some 41), (some (40, false)), .f (.mv (.t 1))⟩,
    .run ⟨(some 42), (some (40, false)), .e (.call 43 [(.t 41)])⟩,
    .run ⟨(some 43), none, .f (.pick (.t 40) (.c (.bool true)) (.t 42))⟩,
    .run ⟨(some 44), none, .f (.mv (.t 43))⟩,
    .run ⟨(some 45), (some (44, false)), .f (.mv (.t 2))⟩,
    .run ⟨(some 46), (some (44, false)), .e (.call 43 [(.t 45)])⟩,
    .run ⟨(some 47), none, .f (.pick (.t 44) (.c (.bool true)) (.t 46))⟩])
   (.ite (.t 47)
   (.seq (.reg [] [.run ⟨(some 48), none, .e (.call 34 [])⟩,
    .run ⟨(some 10), none, .f (.mv (.t 48))⟩])
   .ret)
   .skip))
   (.seq (.reg [] [.run ⟨(some 50), none, .e (.call 18 [(.c (.int .i64 8388608))])⟩,
    .run ⟨(some 49), none, .f (.mv (.t 50))⟩,
    .run ⟨(some 51), none, .f (.extract (.t 49) 0)⟩,
    .run ⟨(some 52), none, .f (.extract (.t 49) 1)⟩,
    .run ⟨(some 11), none, .f (.mv (.t 51))⟩,
    .run ⟨(some 12), none, .f (.mv (.t 52))⟩])
   (.seq (.reg [] [.run ⟨(some 54), none, .f (.mv (.t 11))⟩,
    .run ⟨(some 55), none, .e (.call 38 [(.t 54), (.c (.str (mkS [108, 111, 103])))])⟩,
    .run ⟨(some 53), none, .f (.mv (.t 55))⟩,
    .run ⟨(some 56), none, .f (.extract (.t 53) 0)⟩,
    .run ⟨(some 57), none, .f (.extract (.t 53) 1)⟩,
    .run ⟨(some 13), none, .f (.mv (.t 56))⟩,
    .run ⟨(some 14), none, .f (.mv (.t 57))⟩])
   (.seq (.seq (.reg [] [.run ⟨(some 58), none, .f (.mv (.t 14))⟩,
    .run ⟨(some 59), none, .f (.bin .neq (.t 58) (.c (.int .i64 0)))⟩])
   (.ite (.t 59)
   (.seq (.reg [] [.run ⟨(some 10), none, .f (.mv (.c (.bool false)))⟩])
   .ret)
   .skip))
   (.seq (.reg [] [.run ⟨(some 15), none, .f (.mv (.c (.sl [] 0 1 .nil)))⟩])
   (.seq (.seq (.reg [] [.run ⟨(some 16), none, .f (.mv (.c (.int .i64 0)))⟩])
   (.blk 0 (.loop l_l04_WalCrashes_0)))
   s_l04_WalCrashes_1)))))))
theorem k_l04_WalCrashes : chkFn Try.prog n_l04_WalCrashes ⟨b_l04_WalCrashes, [.tmp 10], 155⟩ = true := by kernel_rfl
/-- fascine/fascinelaw04.WalCuts -/
abbrev n_l04_WalCuts : Nat := 13
def b_l04_WalCuts : Cd := (.seq (.reg [] [.run ⟨(some 4), none, .f (.mv (.c (.bool false)))⟩])
   (.seq (.seq (.reg [] [.run ⟨(some 14), none, .e (.call 34 [])⟩,
    .run ⟨(some 15), none, .f (.un .not (.t 14))⟩,
    .run ⟨(some 16), none, .f (.mv (.t 15))⟩,
    .run ⟨(some 17), (some (16, false)), .f (.mv (.t 0))⟩,
    .run ⟨(some 18), (some (16, false)), .f (.len .sl (.t 17))⟩,
    .run ⟨(some 19), (some (16, false)), .f (.mv (.t 1))⟩,
    .run ⟨(some 20), (some (16, false)), .f (.len .sl (.t 19))⟩,
    .run ⟨(some 21), (some (16, false)), .f (.bin .add (.t 18) (.t 20))⟩,
    .run ⟨(some 22), (some (16, false)), .f (.bin .gtr (.t 21) (.c (.int .i64 5000)))⟩,
    .run ⟨(some 23), none, .f (.pick (.t 16) (.c (.bool true)) (.t 22))⟩])
   (.ite (.t 23)
   (.seq (.reg [] [.run ⟨(some 24), none, .e (.call 34 [])⟩,
    .run ⟨(some 4), none, .f (.mv (.t 24))⟩])
   .ret)
   .skip))
   (.seq (.reg [] [.run ⟨(some 26), none, .e (.call 18 [(.c (.int .i64 65536))])⟩,
    .run ⟨(some 25), none, .f (.mv (.t 26))⟩,
    .run ⟨(some 27), none, .f (.extract (.t 25) 0)⟩,
    .run ⟨(some 28), none, .f (.extract (.t 25) 1)⟩,
    .run ⟨(some 5), none, .f (.mv (.t 27))⟩,
    .run ⟨(some 6), none, .f (.mv (.t 28))⟩])
   (.seq (.seq (.reg [] [.run ⟨(some 29), none, .f (.mv (.t 5))⟩,
    .run ⟨(some 30), none, .f (.mv (.t 0))⟩,
    .run ⟨(some 31), none, .e (.call 19 [(.t 29), (.c (.str (mkS [108, 111, 103]))), (.t 30)])⟩,
    .run ⟨(some 32), none, .f (.bin .neq (.t 31) (.c (.int .i64 0)))⟩,
    .run ⟨(some 33), none, .f (.mv (.t 32))⟩,
    .run ⟨(some 34), (some (33, false)), .f (.mv (.t 5))⟩,
    .run ⟨(some 35), (some (33, false)), .e (.call 20 [(.t 34), (.c (.str (mkS [108, 111, 103])))])⟩,
    .run ⟨(some 36), (some (33, false)), .f (.bin .neq (.t 35) (.c (.int .i64 0)))⟩,
    .run ⟨(some 37), none, .f (.pick (.t 33) (.c (.bool true)) (.t 36))⟩,
    .run ⟨(some 38), none, .f (.mv (.t 37))⟩,
    .run ⟨(some 39), (some (38, false)), .f (.mv (.t 5))⟩,
    .run ⟨(some 40), (some (38, false)), .f (.mv (.t 1))⟩,
    .run ⟨(some 41), (some (38, false)), .e (.call 19 [(.t 39), (.c (.str (mkS [108, 111, 103, 46, 110, 101, 119]))), (.t 40)])⟩,
    .run ⟨(some 42), (some (38, false)), .f (.bin .neq (.t 41) (.c (.int .i64 0)))⟩,
    .run ⟨(some 43), none, .f (.pick (.t 38) (.c (.bool true)) (.t 42))⟩])
   (.ite (.t 43)
   (.seq (.reg [] [.run ⟨(some 4), none, .f (.mv (.c (.bool false)))⟩])
   .ret)
   .skip))
   (.seq (.reg [] [.run ⟨(some 45), none, .f (.mv (.t 5))⟩,
    .run ⟨(some 46), none, .e (.call 38 [(.t 45), (.c (.str (mkS [108, 111, 103])))])⟩,
    .run ⟨(some 44), none, .f (.mv (.t 46))⟩,
    .run ⟨(some 47), none, .f (.extract (.t 44) 0)⟩,
    .run ⟨(some 48), none, .f (.extract (.t 44) 1)⟩,
    .run ⟨(some 7), none, .f (.mv (.t 47))⟩,
    .run ⟨(some 8), none, .f (.mv (.t 48))⟩])
   (.seq (.reg [] [.run ⟨(some 50), none, .f (.mv (.t 0))⟩,
    .run ⟨(some 51), none, .e (.call 36 [(.t 50)])⟩,
    .run ⟨(some 49), none, .f (.mv (.t 51))⟩,
    .run ⟨(some 52), none, .f (.extract (.t 49) 0)⟩,
    .run ⟨(some 53), none, .f (.extract (.t 49) 1)⟩,
    .run ⟨(some 9), none, .f (.mv (.t 52))⟩,
    .run ⟨(some 10), none, .f (.mv (.t 53))⟩])
   (.seq (.seq (.reg [] [.run ⟨(some 54), none, .f (.mv (.t 8))⟩,
    .run ⟨(some 55), none, .f (.bin .neq (.t 54) (.c (.int .i64 0)))⟩,
    .run ⟨(some 56), none, .f (.mv (.t 55))⟩,
    .run ⟨(some 57), (some (56, false)), .f (.mv (.t 7))⟩,
    .run ⟨(some 58), (some (56, false)), .e (.call 42 [(.t 57)])⟩,
    .run ⟨(some 59), (some (56, false)), .f (.mv (.t 9))⟩,
    .run ⟨(some 60), (some (56, false)), .e (.call 37 [(.t 58), (.t 59)])⟩,
    .run ⟨(some 61), (some (56, false)), .f (.un .not (.t 60))⟩,
    .run ⟨(some 62), none, .f (.pick (.t 56) (.c (.bool true)) (.t 61))⟩])
   (.ite (.t 62)
   (.seq (.reg [] [.run ⟨(some 4), none, .f (.mv (.c (.bool false)))⟩])
   .ret)
   .skip))
   (.seq (.reg [] [.run ⟨(some 64), none, .f (.mv (.t 5))⟩,
    .run ⟨(some 65), none, .e (.call 21 [(.t 64), (.c (.str (mkS [108, 111, 103])))])⟩,
    .run ⟨(some 63), none, .f (.mv (.t 65))⟩,
    .run ⟨(some 66), none, .f (.extract (.t 63) 0)⟩,
    .run ⟨(some 67), none, .f (.extract (.t 63) 1)⟩,
    .run ⟨(some 11), none, .f (.mv (.t 66))⟩,
    .run ⟨(some 12), none, .f (.mv (.t 67))⟩])
   (.seq (.reg [] [.run ⟨(some 68), none, .f (.mv (.t 5))⟩,
    .run ⟨(some 69), none, .e (.call 28 [(.t 68)])⟩,
    .run ⟨(some 13), none, .f (.mv (.t 69))⟩])
   (.seq (.reg [0, 1, 2, 3, 4, 5, 6, 7, 8, 9, 10, 11, 12, 14, 13, 15, 16, 17, 18, 19, 20, 21, 22] [.run ⟨(some 70), none, .f (.mv (.t 12))⟩,
    .run ⟨(some 71), none, .f (.bin .eql (.t 70) (.c (.int .i64 0)))⟩,
    .run ⟨(some 72), none, .f (.mv (.t 71))⟩,
    .run ⟨(some 73), (some (72, true)), .f (.mv (.t 11))⟩,
    .run ⟨(some 74), (some (72, true)), .f (.conv .bytesStr (.t 73))⟩,
    .run ⟨(some 75), (some (72, true)), .f (.mv (.t 0))⟩,
    .run ⟨(some 76), (some (72, true)), .f (.mv (.t 10))⟩,
    .run ⟨(some 77), (some (72, true)), .f (.slice 1 (.t 75) none (some (.t 76)) none)⟩,
    .run ⟨(some 78), (some (72, true)), .f (.conv .bytesStr (.t 77))⟩,
    .run ⟨(some 79), (some (72, true)), .f (.bin .eql (.t 74) (.t 78))⟩,
    .run ⟨(some 80), none, .f (.pick (.t 72) (.t 79) (.c (.bool false)))⟩,
    .run ⟨(some 81), none, .f (.mv (.t 80))⟩,
    .run ⟨(some 82), (some (81, true)), .f (.mv (.t 5))⟩,
    .run ⟨(some 84), (some (81, true)), .f (.mv (.t 10))⟩,
    .run ⟨(some 83), (some (81, true)), .e (.call 23 [(.t 82), (.c (.str (mkS [108, 111, 103])))])⟩,
    .run ⟨(some 85), (some (81, true)), .f (.bin .eql (.t 83) (.t 84))⟩,
    .run ⟨(some 86), none, .f (.pick (.t 81) (.t 85) (.c (.bool false)))⟩,
    .run ⟨(some 87), none, .f (.mv (.t 86))⟩,
    .run ⟨(some 88), (some (87, true)), .f (.mv (.t 13))⟩,
    .run ⟨(some 89), (some (87, true)), .f (.len .sl (.t 88))⟩,
    .run ⟨(some 90), (some (87, true)), .f (.bin .eql (.t 89) (.c (.int .i64 1)))⟩,
    .run ⟨(some 91), none, .f (.pick (.t 87) (.t 90) (.c (.bool false)))⟩,
    .run ⟨(some 4), none, .f (.mv (.t 91))⟩])
   .ret))))))))))
theorem k_l04_WalCuts : chkFn Try.prog n_l04_WalCuts ⟨b_l04_WalCuts, [.tmp 4], 92⟩ = true := by kernel_rfl
/-- fascine/fascinelaw04.WalMany -/
abbrev n_l04_WalMany : Nat := 12
def l_l04_WalMany_0 : Cd := (.seq (.seq (.reg [] [.run ⟨(some 32), none, .f (.mv (.t 12))⟩,
    .run ⟨(some 33), none, .f (.mv (.t 0))⟩,
    .run ⟨(some 34), none, .f (.conv (.int .i64) (.t 33))⟩,
    .run ⟨(some 35), none, .f (.bin .lss (.t 32) (.t 34))⟩])
   (.ite (.t 35)
   .skip
   (.exit 0)))
   (.seq (.blk 1 (.seq (.reg [] [.run ⟨(some 38), none, .f (.mv (.t 12))⟩,
    .run ⟨(some 39), none, .f (.conv (.int .u8) (.t 38))⟩,
    .run ⟨(some 40), none, .e (.buildSlice 1 1 0 [(.int .u8 0)] [(0, 1, (.t 39))])⟩,
    .run ⟨(some 41), none, .f (.mv (.t 1))⟩,
    .run ⟨(some 42), none, .e (.append 1 1 false (.t 40) (.t 41))⟩,
    .run ⟨(some 13), none, .f (.mv (.t 42))⟩])
   (.seq (.seq (.reg [] [.run ⟨(some 43), none, .f (.mv (.t 9))⟩,
    .run ⟨(some 44), none, .f (.mv (.t 13))⟩,
    .run ⟨(some 45), none, .e (.call 39 [(.t 43), (.t 44)])⟩,
    .run ⟨(some 46), none, .f (.bin .neq (.t 45) (.c (.int .i64 0)))⟩,
    .run ⟨(some 47), none, .f (.mv (.t 46))⟩,
    .run ⟨(some 48), (some (47, false)), .f (.mv (.t 9))⟩,
    .run ⟨(some 49), (some (47, false)), .e (.call 40 [(.t 48)])⟩,
    .run ⟨(some 50), (some (47, false)), .f (.bin .neq (.t 49) (.c (.int .i64 0)))⟩,
    .run ⟨(some 51), none, .f (.pick (.t 47) (.c (.bool true)) (.t 50))⟩])
   (.ite (.t 51)
   (.seq (.reg [] [.run ⟨(some 6), none, .f (.mv (.c (.bool false)))⟩])
   .ret)
   .skip))
   (.reg [] [.run ⟨(some 52), none, .f (.mv (.t 11))⟩,
    .run ⟨(some 53), none, .f (.mv (.t 13))⟩,
    .run ⟨(some 54), none, .e (.buildSlice 1 1 0 [(.sl [] 0 1 .nil)] [(0, 1, (.t 53))])⟩,
    .run ⟨(some 55), none, .e (.append 1 24 false (.t 52) (.t 54))⟩,
    .run ⟨(some 11), none, .f (.mv (.t 55))⟩]))))
   (.reg [] [.run ⟨(some 36), none, .f (.mv (.t 12))⟩,
    .run ⟨(some 37), none, .f (.bin .add (.t 36) (.c (.int .i64 1)))⟩,
    .run ⟨(some 12), none, .f (.mv (.t 37))⟩])))
def s_l04_WalMany_0 : Cd := (.seq (.reg [] [.run ⟨(some 56), none, .f (.mv (.t 7))⟩,
    .run ⟨(some 57), none, .f (.mv (.t 2))⟩,
    .run ⟨(some 58), none, .e (.call 22 [(.t 56), (.t 57)])⟩])
   (.seq (.reg [] [.run ⟨(some 60), none, .f (.mv (.t 7))⟩,
    .run ⟨(some 61), none, .e (.call 38 [(.t 60), (.c (.str (mkS [108, 111, 103])))])⟩,
    .run ⟨(some 59), none, .f (.mv (.t 61))⟩,
    .run ⟨(some 62), none, .f (.extract (.t 59) 0)⟩,
    .run ⟨(some 63), none, .f (.extract (.t 59) 1)⟩,
    .run ⟨(some 9), none, .f (.mv (.t 62))⟩,
    .run ⟨(some 14), none, .f (.mv (.t 63))⟩])
   (.seq (.reg [] [.run ⟨(some 64), none, .f (.mv (.t 14))⟩,
    .run ⟨(some 65), none, .f (.bin .eql (.t 64) (.c (.int .i64 0)))⟩,
    .run ⟨(some 66), none, .f (.mv (.t 65))⟩,
    .run ⟨(some 67), (some (66, true)), .f (.mv (.t 9))⟩,
    .run ⟨(some 68), (some (66, true)), .e (.call 42 [(.t 67)])⟩,
    .run ⟨(some 69), (some (66, true)), .f (.mv (.t 11))⟩,
    .run ⟨(some 70), (some (66, true)), .e (.call 37 [(.t 68), (.t 69)])⟩,
    .run ⟨(some 71), none, .f (.pick (.t 66) (.t 70) (.c (.bool false)))⟩,
    .run ⟨(some 6), none, .f (.mv (.t 71))⟩])
   .ret)))
def b_l04_WalMany : Cd := (.seq (.reg [] [.run ⟨(some 6), none, .f (.mv (.c (.bool false)))⟩])
   (.seq (.seq (.reg [] [.run ⟨(some 15), none, .e (.call 34 [])⟩,
    .run ⟨(some 16), none, .f (.un .not (.t 15))⟩,
    .run ⟨(some 17), none, .f (.mv (.t 16))⟩,
    .run ⟨(some 18), (some (17, false)), .f (.mv (.t 1))⟩,
    .run ⟨(some 19), (some (17, false)), .f (.len .sl (.t 18))⟩,
    .run ⟨(some 20), (some (17, false)), .f (.bin .gtr (.t 19) (.c (.int .i64 200)))⟩,
    .run ⟨(some 21), none, .f (.pick (.t 17) (.c (.bool true)) (.t 20))⟩])
   (.ite (.t 21)
   (.seq (.reg [] [.run ⟨(some 22), none, .e (.call 34 [])⟩,
    .run ⟨(some 6), none, .f (.mv (.t 22))⟩])
   .ret)
   .skip))
   (.seq (.reg [] [.run ⟨(some 24), none, .e (.call 18 [(.c (.int .i64 1048576))])⟩,
    .run ⟨(some 23), none, .f (.mv (.t 24))⟩,
    .run ⟨(some 25), none, .f (.extract (.t 23) 0)⟩,
    .run ⟨(some 26), none, .f (.extract (.t 23) 1)⟩,
    .run ⟨(some 7), none, .f (.mv (.t 25))⟩,
    .run ⟨(some 8), none, .f (.mv (.t 26))⟩])
   (.seq (.reg [] [.run ⟨(some 28), none, .f (.mv (.t 7))⟩,
    .run ⟨(some 29), none, .e (.call 38 [(.t 28), (.c (.str (mkS [108, 111, 103])))])⟩,
    .run ⟨(some 27), none, .f (.mv (.t 29))⟩,
    .run ⟨(some 30), none, .f (.extract (.t 27) 0)⟩,
    .run ⟨(some 31), none, .f (.extract (.t 27) 1)⟩,
    .run ⟨(some 9), none, .f (.mv (.t 30))⟩,
    .run ⟨(some 10), none, .f (.mv (.t 31))⟩])
   (.seq (.reg [] [.run ⟨(some 11), none, .f (.mv (.c (.sl [] 0 1 .nil)))⟩])
   (.seq (.seq (.reg [] [.run ⟨(some 12), none, .f (.mv (.c (.int .i64 0)))⟩])
   (.blk 0 (.loop l_l04_WalMany_0)))
   s_l04_WalMany_0))))))
theorem k_l04_WalMany : chkFn Try.prog n_l04_WalMany ⟨b_l04_WalMany, [.tmp 6], 72⟩ = true := by kernel_rfl
/-- fascine/fascinelaw04.WalScans -/
abbrev n_l04_WalScans : Nat := 10
def b_l04_WalScans : Cd := (.seq (.reg [] [.run ⟨(some 2), none, .f (.mv (.c (.bool false)))⟩])
   (.seq (.seq (.reg [] [.run ⟨(some 7), none, .e (.call 34 [])⟩,
    .run ⟨(some 8), none, .f (.un .not (.t 7))⟩])
   (.ite (.t 8)
   (.seq (.reg [] [.run ⟨(some 2), none, .f (.mv (.c (.bool false)))⟩])
   .ret)
   .skip))
   (.seq (.reg [] [.run ⟨(some 10), none, .f (.mv (.t 0))⟩,
    .run ⟨(some 11), none, .e (.call 35 [(.t 10)])⟩,
    .run ⟨(some 9), none, .f (.mv (.t 11))⟩,
    .run ⟨(some 12), none, .f (.extract (.t 9) 0)⟩,
    .run ⟨(some 13), none, .f (.extract (.t 9) 1)⟩,
    .run ⟨(some 3), none, .f (.mv (.t 12))⟩,
    .run ⟨(some 4), none, .f (.mv (.t 13))⟩])
   (.seq (.reg [] [.run ⟨(some 15), none, .f (.mv (.t 0))⟩,
    .run ⟨(some 16), none, .e (.call 36 [(.t 15)])⟩,
    .run ⟨(some 14), none, .f (.mv (.t 16))⟩,
    .run ⟨(some 17), none, .f (.extract (.t 14) 0)⟩,
    .run ⟨(some 18), none, .f (.extract (.t 14) 1)⟩,
    .run ⟨(some 5), none, .f (.mv (.t 17))⟩,
    .run ⟨(some 6), none, .f (.mv (.t 18))⟩])
   (.seq (.reg [] [.run ⟨(some 19), none, .f (.mv (.t 4))⟩,
    .run ⟨(some 20), none, .f (.mv (.t 6))⟩,
    .run ⟨(some 21), none, .f (.bin .eql (.t 19) (.t 20))⟩,
    .run ⟨(some 22), none, .f (.mv (.t 21))⟩,
    .run ⟨(some 23), (some (22, true)), .f (.mv (.t 3))⟩,
    .run ⟨(some 24), (some (22, true)), .f (.mv (.t 5))⟩,
    .run ⟨(some 25), (some (22, true)), .e (.call 37 [(.t 23), (.t 24)])⟩,
    .run ⟨(some 26), none, .f (.pick (.t 22) (.t 25) (.c (.bool false)))⟩,
    .run ⟨(some 2), none, .f (.mv (.t 26))⟩])
   .ret)))))
theorem k_l04_WalScans : chkFn Try.prog n_l04_WalScans ⟨b_l04_WalScans, [.tmp 2], 27⟩ = true := by kernel_rfl
/-- fascine/fascinelaw04.all -/
abbrev n_l04_all : Nat := 42
def l_l04_all_0 : Cd := (.seq (.seq (.reg [] [.run ⟨(some 7), none, .f (.mv (.t 4))⟩,
    .run ⟨(some 8), none, .f (.mv (.t 0))⟩,
    .run ⟨(some 9), none, .e (.call 41 [(.t 8)])⟩,
    .run ⟨(some 10), none, .f (.bin .lss (.t 7) (.t 9))⟩])
   (.ite (.t 10)
   .skip
   (.exit 0)))
   (.seq (.blk 1 (.seq (.reg [] [.run ⟨(some 14), none, .f (.mv (.t 0))⟩,
    .run ⟨(some 15), none, .f (.mv (.t 4))⟩,
    .run ⟨(some 16), none, .e (.call 65 [(.t 14), (.t 15)])⟩,
    .run ⟨(some 13), none, .f (.mv (.t 16))⟩,
    .run ⟨(some 17), none, .f (.extract (.t 13) 0)⟩,
    .run ⟨(some 18), none, .f (.extract (.t 13) 1)⟩,
    .run ⟨(some 5), none, .f (.mv (.t 17))⟩,
    .run ⟨(some 6), none, .f (.mv (.t 18))⟩])
   (.seq (.seq (.reg [] [.run ⟨(some 19), none, .f (.mv (.t 6))⟩,
    .run ⟨(some 20), none, .f (.bin .neq (.t 19) (.c (.int .i64 0)))⟩])
   (.ite (.t 20)
   (.seq (.reg [] [.run ⟨(some 2), none, .f (.mv (.c (.sl [] 0 1 .nil)))⟩])
   .ret)
   .skip))
   (.reg [] [.run ⟨(some 21), none, .f (.mv (.t 3))⟩,
    .run ⟨(some 22), none, .f (.mv (.t 5))⟩,
    .run ⟨(some 23), none, .e (.buildSlice 1 1 0 [(.sl [] 0 1 .nil)] [(0, 1, (.t 22))])⟩,
    .run ⟨(some 24), none, .e (.append 1 24 false (.t 21) (.t 23))⟩,
    .run ⟨(some 3), none, .f (.mv (.t 24))⟩]))))
   (.reg [] [.run ⟨(some 11), none, .f (.mv (.t 4))⟩,
    .run ⟨(some 12), none, .f (.bin .add (.t 11) (.c (.int .i64 1)))⟩,
    .run ⟨(some 4), none, .f (.mv (.t 12))⟩])))
def b_l04_all : Cd := (.seq (.reg [] [.run ⟨(some 2), none, .f (.mv (.c (.sl [] 0 1 .nil)))⟩])
   (.seq (.reg [] [.run ⟨(some 3), none, .f (.mv (.c (.sl [] 0 1 .nil)))⟩])
   (.seq (.seq (.reg [] [.run ⟨(some 4), none, .f (.mv (.c (.int .i64 0)))⟩])
   (.blk 0 (.loop l_l04_all_0)))
   (.seq (.reg [] [.run ⟨(some 25), none, .f (.mv (.t 3))⟩,
    .run ⟨(some 2), none, .f (.mv (.t 25))⟩])
   .ret))))
theorem k_l04_all : chkFn Try.prog n_l04_all ⟨b_l04_all, [.tmp 2], 26⟩ = true := by kernel_rfl
/-- fascine/fascinelaw04.awake -/
abbrev n_l04_awake : Nat := 34
def b_l04_awake : Cd := (.seq (.reg [] [.run ⟨(some 0), none, .f (.mv (.c (.bool false)))⟩])
   (.seq (.reg [] [.run ⟨(some 6), none, .e (.call 18 [(.c (.int .i64 1000))])⟩,
    .run ⟨(some 5), none, .f (.mv (.t 6))⟩,
    .run ⟨(some 7), none, .f (.extract (.t 5) 0)⟩,
    .run ⟨(some 8), none, .f (.extract (.t 5) 1)⟩,
    .run ⟨(some 1), none, .f (.mv (.t 7))⟩,
    .run ⟨(some 2), none, .f (.mv (.t 8))⟩])
   (.seq (.reg [] [.run ⟨(some 10), none, .f (.mv (.t 1))⟩,
    .run ⟨(some 11), none, .e (.call 38 [(.t 10), (.c (.str (mkS [97])))])⟩,
    .run ⟨(some 9), none, .f (.mv (.t 11))⟩,
    .run ⟨(some 12), none, .f (.extract (.t 9) 0)⟩,
    .run ⟨(some 13), none, .f (.extract (.t 9) 1)⟩,
    .run ⟨(some 3), none, .f (.mv (.t 12))⟩,
    .run ⟨(some 4), none, .f (.mv (.t 13))⟩])
   (.seq (.seq (.reg [] [.run ⟨(some 14), none, .f (.mv (.t 4))⟩,
    .run ⟨(some 15), none, .f (.bin .neq (.t 14) (.c (.int .i64 0)))⟩,
    .run ⟨(some 16), none, .f (.mv (.t 15))⟩,
    .run ⟨(some 17), (some (16, false)), .f (.mv (.t 3))⟩,
    .run ⟨(some 18), (some (16, false)), .f (.eq false .ptr (.t 17) (.c (.ptr none)))⟩,
    .run ⟨(some 19), none, .f (.pick (.t 16) (.c (.bool true)) (.t 18))⟩,
    .run ⟨(some 20), none, .f (.mv (.t 19))⟩,
    .run ⟨(some 21), (some (20, false)), .f (.mv (.t 3))⟩,
    .run ⟨(some 22), (some (20, false)), .e (.buildSlice 1 1 2 [(.int .u8 0)] [(0, 1, (.c (.int .u8 120)))])⟩,
    .run ⟨(some 23), (some (20, false)), .e (.bytesSame (.t 22))⟩,
    .run ⟨(some 24), (some (20, false)), .e (.call 39 [(.t 21), (.t 23)])⟩,
    .run ⟨(some 25), (some (20, false)), .f (.bin .neq (.t 24) (.c (.int .i64 0)))⟩,
    .run ⟨(some 26), none, .f (.pick (.t 20) (.c (.bool true)) (.t 25))⟩,
    .run ⟨(some 27), none, .f (.mv (.t 26))⟩,
    .run ⟨(some 28), (some (27, false)), .f (.mv (.t 3))⟩,
    .run ⟨(some 29), (some (27, false)), .e (.call 40 [(.t 28)])⟩,
    .run ⟨(some 30), (some (27, false)), .f (.bin .neq (.t 29) (.c (.int .i64 0)))⟩,
    .run ⟨(some 31), none, .f (.pick (.t 27) (.c (.bool true)) (.t 30))⟩,
    .run ⟨(some 32), none, .f (.mv (.t 31))⟩,
    .run ⟨(some 33), (some (32, false)), .f (.mv (.t 3))⟩,
    .run ⟨(some 34), (some (32, false)), .e (.buildSlice 1 1 2 [(.int .u8 0)] [(0, 1, (.c (.int .u8 121)))])⟩,
    .run ⟨(some 35), (some (32, false)), .e (.bytesSame (.t 34))⟩,
    .run ⟨(some 36), (some (32, false)), .e (.call 39 [(.t 33), (.t 35)])⟩,
    .run ⟨(some 37), (some (32, false)), .f (.bin .neq (.t 36) (.c (.int .i64 0)))⟩,
    .run ⟨(some 38), none, .f (.pick (.t 32) (.c (.bool true)) (.t 37))⟩])
   (.ite (.t 38)
   (.seq (.reg [] [.run ⟨(some 0), none, .f (.mv (.c (.bool false)))⟩])
   .ret)
   .skip))
   (.seq (.reg [] [.run ⟨(some 39), none, .f (.mv (.t 1))⟩,
    .run ⟨(some 40), none, .e (.buildSlice 1 1 0 [(.int .i64 0)] [(0, 1, (.c (.int .i64 3)))])⟩,
    .run ⟨(some 41), none, .e (.call 22 [(.t 39), (.t 40)])⟩])
   (.seq (.reg [] [.run ⟨(some 43), none, .f (.mv (.t 1))⟩,
    .run ⟨(some 44), none, .e (.call 38 [(.t 43), (.c (.str (mkS [97])))])⟩,
    .run ⟨(some 42), none, .f (.mv (.t 44))⟩,
    .run ⟨(some 45), none, .f (.extract (.t 42) 0)⟩,
    .run ⟨(some 46), none, .f (.extract (.t 42) 1)⟩,
    .run ⟨(some 3), none, .f (.mv (.t 45))⟩,
    .run ⟨(some 4), none, .f (.mv (.t 46))⟩])
   (.seq (.reg [] [.run ⟨(some 47), none, .f (.mv (.t 4))⟩,
    .run ⟨(some 48), none, .f (.bin .eql (.t 47) (.c (.int .i64 0)))⟩,
    .run ⟨(some 49), none, .f (.mv (.t 48))⟩,
    .run ⟨(some 50), (some (49, true)), .f (.mv (.t 3))⟩,
    .run ⟨(some 51), (some (49, true)), .e (.call 41 [(.t 50)])⟩,
    .run ⟨(some 52), (some (49, true)), .f (.bin .eql (.t 51) (.c (.int .i64 1)))⟩,
    .run ⟨(some 53), none, .f (.pick (.t 49) (.t 52) (.c (.bool false)))⟩,
    .run ⟨(some 0), none, .f (.mv (.t 53))⟩])
   .ret)))))))
theorem k_l04_awake : chkFn Try.prog n_l04_awake ⟨b_l04_awake, [.tmp 0], 54⟩ = true := by kernel_rfl
/-- fascine/fascinelaw04.beginning -/
abbrev n_l04_beginning : Nat := 45
def b_l04_beginning : Cd := (.seq (.reg [] [.run ⟨(some 6), none, .f (.mv (.c (.bool false)))⟩])
   (.seq (.reg [] [.run ⟨(some 7), none, .f (.mv (.t 0))⟩,
    .run ⟨(some 8), none, .f (.len .sl (.t 7))⟩,
    .run ⟨(some 9), none, .f (.mv (.t 2))⟩,
    .run ⟨(some 10), none, .f (.bin .geq (.t 8) (.t 9))⟩,
    .run ⟨(some 11), none, .f (.mv (.t 10))⟩,
    .run ⟨(some 12), (some (11, true)), .f (.mv (.t 0))⟩,
    .run ⟨(some 13), (some (11, true)), .f (.len .sl (.t 12))⟩,
    .run ⟨(some 14), (some (11, true)), .f (.mv (.t 1))⟩,
    .run ⟨(some 15), (some (11, true)), .f (.len .sl (.t 14))⟩,
    .run ⟨(some 16), (some (11, true)), .f (.bin .leq (.t 13) (.t 15))⟩,
    .run ⟨(some 17), none, .f (.pick (.t 11) (.t 16) (.c (.bool false)))⟩,
    .run ⟨(some 18), none, .f (.mv (.t 17))⟩,
    .run ⟨(some 19), (some (18, true)), .f (.mv (.t 0))⟩,
    .run ⟨(some 20), (some (18, true)), .f (.mv (.t 1))⟩,
    .run ⟨(some 21), (some (18, true)), .f (.mv (.t 0))⟩,
    .run ⟨(some 22), (some (18, true)), .f (.len .sl (.t 21))⟩,
    .run ⟨(some 23), (some (18, true)), .f (.slice 1 (.t 20) none (some (.t 22)) none)⟩,
    .run ⟨(some 24), (some (18, true)), .e (.call 37 [(.t 19), (.t 23)])⟩,
    .run ⟨(some 25), none, .f (.pick (.t 18) (.t 24) (.c (.bool false)))⟩,
    .run ⟨(some 6), none, .f (.mv (.t 25))⟩])
   .ret))
theorem k_l04_beginning : chkFn Try.prog n_l04_beginning ⟨b_l04_beginning, [.tmp 6], 26⟩ = true := by kernel_rfl
/-- fascine/fascinelaw04.long -/
abbrev n_l04_long : Nat := 43
def l_l04_long_0 : Cd := (.seq (.seq (.reg [] [.run ⟨(some 4), none, .f (.mv (.t 3))⟩,
    .run ⟨(some 5), none, .f (.mv (.t 0))⟩,
    .run ⟨(some 6), none, .f (.len .sl (.t 5))⟩,
    .run ⟨(some 7), none, .f (.bin .lss (.t 4) (.t 6))⟩])
   (.ite (.t 7)
   .skip
   (.exit 0)))
   (.seq (.blk 1 (.seq (.reg [] [.run ⟨(some 10), none, .f (.mv (.t 0))⟩,
    .run ⟨(some 11), none, .f (.mv (.t 3))⟩,
    .run ⟨(some 12), none, .f (.indexAddr 1 (.t 10) (.t 11))⟩,
    .run ⟨(some 13), none, .f (.load false 1 (.t 12))⟩,
    .run ⟨(some 14), none, .f (.len .sl (.t 13))⟩,
    .run ⟨(some 15), none, .f (.bin .gtr (.t 14) (.c (.int .i64 65535)))⟩])
   (.ite (.t 15)
   (.seq (.reg [] [.run ⟨(some 2), none, .f (.mv (.c (.bool true)))⟩])
   .ret)
   .skip)))
   (.reg [] [.run ⟨(some 8), none, .f (.mv (.t 3))⟩,
    .run ⟨(some 9), none, .f (.bin .add (.t 8) (.c (.int .i64 1)))⟩,
    .run ⟨(some 3), none, .f (.mv (.t 9))⟩])))
def b_l04_long : Cd := (.seq (.reg [] [.run ⟨(some 2), none, .f (.mv (.c (.bool false)))⟩])
   (.seq (.seq (.reg [] [.run ⟨(some 3), none, .f (.mv (.c (.int .i64 0)))⟩])
   (.blk 0 (.loop l_l04_long_0)))
   (.seq (.reg [] [.run ⟨(some 2), none, .f (.mv (.c (.bool false)))⟩])
   .ret)))
theorem k_l04_long : chkFn Try.prog n_l04_long ⟨b_l04_long, [.tmp 2], 16⟩ = true := by kernel_rfl
/-- fascine/fascineref04.Same -/
abbrev n_r04_Same : Nat := 37
def l_r04_Same_0 : Cd := (.seq (.seq (.reg [] [.run ⟨(some 11), none, .f (.mv (.t 5))⟩,
    .run ⟨(some 12), none, .f (.mv (.t 0))⟩,
    .run ⟨(some 13), none, .f (.len .sl (.t 12))⟩,
    .run ⟨(some 14), none, .f (.bin .lss (.t 11) (.t 13))⟩])
   (.ite (.t 14)
   .skip
   (.exit 0)))
   (.seq (.blk 1 (.seq (.reg [0, 1, 2, 3, 4, 5, 6, 7, 8, 9, 10] [.run ⟨(some 17), none, .f (.mv (.t 0))⟩,
    .run ⟨(some 18), none, .f (.mv (.t 5))⟩,
    .run ⟨(some 19), none, .f (.indexAddr 1 (.t 17) (.t 18))⟩,
    .run ⟨(some 20), none, .f (.load false 1 (.t 19))⟩,
    .run ⟨(some 21), none, .f (.conv .bytesStr (.t 20))⟩,
    .run ⟨(some 22), none, .f (.mv (.t 1))⟩,
    .run ⟨(some 23), none, .f (.mv (.t 5))⟩,
    .run ⟨(some 24), none, .f (.indexAddr 1 (.t 22) (.t 23))⟩,
    .run ⟨(some 25), none, .f (.load false 1 (.t 24))⟩,
    .run ⟨(some 26), none, .f (.conv .bytesStr (.t 25))⟩,
    .run ⟨(some 27), none, .f (.bin .neq (.t 21) (.t 26))⟩])
   (.ite (.t 27)
   (.seq (.reg [] [.run ⟨(some 4), none, .f (.mv (.c (.bool false)))⟩])
   .ret)
   .skip)))
   (.reg [] [.run ⟨(some 15), none, .f (.mv (.t 5))⟩,
    .run ⟨(some 16), none, .f (.bin .add (.t 15) (.c (.int .i64 1)))⟩,
    .run ⟨(some 5), none, .f (.mv (.t 16))⟩])))
def b_r04_Same : Cd := (.seq (.reg [] [.run ⟨(some 4), none, .f (.mv (.c (.bool false)))⟩])
   (.seq (.seq (.reg [] [.run ⟨(some 6), none, .f (.mv (.t 0))⟩,
    .run ⟨(some 7), none, .f (.len .sl (.t 6))⟩,
    .run ⟨(some 8), none, .f (.mv (.t 1))⟩,
    .run ⟨(some 9), none, .f (.len .sl (.t 8))⟩,
    .run ⟨(some 10), none, .f (.bin .neq (.t 7) (.t 9))⟩])
   (.ite (.t 10)
   (.seq (.reg [] [.run ⟨(some 4), none, .f (.mv (.c (.bool false)))⟩])
   .ret)
   .skip))
   (.seq (.seq (.reg [] [.run ⟨(some 5), none, .f (.mv (.c (.int .i64 0)))⟩])
   (.blk 0 (.loop l_r04_Same_0)))
   (.seq (.reg [] [.run ⟨(some 4), none, .f (.mv (.c (.bool true)))⟩])
   .ret))))
theorem k_r04_Same : chkFn Try.prog n_r04_Same ⟨b_r04_Same, [.tmp 4], 28⟩ = true := by kernel_rfl
/-- fascine/fascineref04.Scan -/
abbrev n_r04_Scan : Nat := 36
def l_r04_Scan_0 : Cd := (.blk 1 (.seq (.reg [] [.run ⟨(some 10), none, .f (.mv (.t 0))⟩,
    .run ⟨(some 11), none, .f (.mv (.t 5))⟩,
    .run ⟨(some 12), none, .e (.call 62 [(.t 10), (.t 11)])⟩,
    .run ⟨(some 9), none, .f (.mv (.t 12))⟩,
    .run ⟨(some 13), none, .f (.extract (.t 9) 0)⟩,
    .run ⟨(some 14), none, .f (.extract (.t 9) 1)⟩,
    .run ⟨(some 15), none, .f (.extract (.t 9) 2)⟩,
    .run ⟨(some 6), none, .f (.mv (.t 13))⟩,
    .run ⟨(some 7), none, .f (.mv (.t 14))⟩,
    .run ⟨(some 8), none, .f (.mv (.t 15))⟩])
   (.seq (.seq (.reg [] [.run ⟨(some 16), none, .f (.mv (.t 8))⟩,
    .run ⟨(some 17), none, .f (.bin .neq (.t 16) (.c (.int .i64 0)))⟩])
   (.ite (.t 17)
   (.seq (.reg [] [.run ⟨(some 18), none, .f (.mv (.t 4))⟩,
    .run ⟨(some 19), none, .f (.mv (.t 5))⟩,
    .run ⟨(some 2), none, .f (.mv (.t 18))⟩,
    .run ⟨(some 3), none, .f (.mv (.t 19))⟩])
   .ret)
   .skip))
   (.seq (.reg [] [.run ⟨(some 20), none, .f (.mv (.t 4))⟩,
    .run ⟨(some 21), none, .f (.mv (.t 6))⟩,
    .run ⟨(some 22), none, .e (.buildSlice 1 1 0 [(.sl [] 0 1 .nil)] [(0, 1, (.t 21))])⟩,
    .run ⟨(some 23), none, .e (.append 1 24 false (.t 20) (.t 22))⟩,
    .run ⟨(some 4), none, .f (.mv (.t 23))⟩])
   (.reg [] [.run ⟨(some 24), none, .f (.mv (.t 7))⟩,
    .run ⟨(some 5), none, .f (.mv (.t 24))⟩])))))
def b_r04_Scan : Cd := (.seq (.reg [] [.run ⟨(some 2), none, .f (.mv (.c (.sl [] 0 1 .nil)))⟩,
    .run ⟨(some 3), none, .f (.mv (.c (.int .i64 0)))⟩])
   (.seq (.reg [] [.run ⟨(some 4), none, .f (.mv (.c (.sl [] 0 1 .nil)))⟩])
   (.seq (.reg [] [.run ⟨(some 5), none, .f (.mv (.c (.int .i64 0)))⟩])
   (.blk 0 (.loop l_r04_Scan_0)))))
theorem k_r04_Scan : chkFn Try.prog n_r04_Scan ⟨b_r04_Scan, [.tmp 2, .tmp 3], 25⟩ = true := by kernel_rfl
/-- (*fascine/wal.Log).Append -/
abbrev n_wal_Log_Append : Nat := 39
def b_wal_Log_Append : Cd := (.seq (.reg [] [.run ⟨(some 4), none, .f (.mv (.c (.int .i64 0)))⟩])
   (.seq (.seq (.reg [] [.run ⟨(some 8), none, .f (.mv (.t 0))⟩,
    .run ⟨(some 9), none, .f (.eq false .ptr (.t 8) (.c (.ptr none)))⟩])
   (.ite (.t 9)
   (.seq (.reg [] [.run ⟨(some 4), none, .f (.mv (.c (.int .i64 8)))⟩])
   .ret)
   .skip))
   (.seq (.reg [] [.run ⟨(some 11), none, .f (.mv (.t 1))⟩,
    .run ⟨(some 12), none, .e (.call 64 [(.t 11)])⟩,
    .run ⟨(some 10), none, .f (.mv (.t 12))⟩,
    .run ⟨(some 13), none, .f (.extract (.t 10) 0)⟩,
    .run ⟨(some 14), none, .f (.extract (.t 10) 1)⟩,
    .run ⟨(some 5), none, .f (.mv (.t 13))⟩,
    .run ⟨(some 6), none, .f (.mv (.t 14))⟩])
   (.seq (.seq (.reg [] [.run ⟨(some 15), none, .f (.mv (.t 6))⟩,
    .run ⟨(some 16), none, .f (.bin .neq (.t 15) (.c (.int .i64 0)))⟩])
   (.ite (.t 16)
   (.seq (.reg [] [.run ⟨(some 17), none, .f (.mv (.t 6))⟩,
    .run ⟨(some 4), none, .f (.mv (.t 17))⟩])
   .ret)
   .skip))
   (.seq (.seq (.reg [0, 1, 2, 3, 4, 5, 6, 7, 8, 9, 10] [.run ⟨(some 18), none, .f (.mv (.t 0))⟩,
    .run ⟨(some 19), none, .f (.nilCheck (.t 18))⟩,
    .run ⟨(some 20), none, .f (.fieldAddr 0 (.t 19))⟩,
    .run ⟨(some 21), none, .f (.load false 1 (.t 20))⟩,
    .run ⟨(some 22), none, .f (.mv (.t 0))⟩,
    .run ⟨(some 23), none, .f (.nilCheck (.t 22))⟩,
    .run ⟨(some 24), none, .f (.fieldAddr 1 (.t 23))⟩,
    .run ⟨(some 25), none, .f (.load false 1 (.t 24))⟩,
    .run ⟨(some 26), none, .f (.mv (.t 5))⟩,
    .run ⟨(some 27), none, .e (.call 19 [(.t 21), (.t 25), (.t 26)])⟩,
    .run ⟨(some 7), none, .f (.mv (.t 27))⟩])
   (.seq (.reg [] [.run ⟨(some 28), none, .f (.mv (.t 7))⟩,
    .run ⟨(some 29), none, .f (.bin .neq (.t 28) (.c (.int .i64 0)))⟩])
   (.ite (.t 29)
   (.seq (.reg [] [.run ⟨(some 30), none, .f (.mv (.t 7))⟩,
    .run ⟨(some 4), none, .f (.mv (.t 30))⟩])
   .ret)
   .skip)))
   (.seq (.reg [0, 1, 2, 3, 4, 5, 6, 4, 7, 4, 8, 9, 10, 11] [.run ⟨(some 31), none, .f (.mv (.t 0))⟩,
    .run ⟨(some 32), none, .f (.mv (.t 0))⟩,
    .run ⟨(some 33), none, .f (.nilCheck (.t 32))⟩,
    .run ⟨(some 34), none, .f (.fieldAddr 2 (.t 33))⟩,
    .run ⟨(some 35), none, .f (.load false 1 (.t 34))⟩,
    .run ⟨(some 36), none, .f (.mv (.t 1))⟩,
    .run ⟨(some 37), none, .e (.append 1 1 false (.c (.sl [] 0 1 .nil)) (.t 36))⟩,
    .chk 35 none (.load false 1 (.t 34)),
    .run ⟨(some 38), none, .e (.buildSlice 1 1 0 [(.sl [] 0 1 .nil)] [(0, 1, (.t 37))])⟩,
    .chk 35 none (.load false 1 (.t 34)),
    .run ⟨(some 39), none, .e (.append 1 24 false (.t 35) (.t 38))⟩,
    .run ⟨(some 40), none, .f (.nilCheck (.t 31))⟩,
    .run ⟨(some 41), none, .f (.fieldAddr 2 (.t 40))⟩,
    .run ⟨none, none, .e (.store 1 (.t 41) (.t 39))⟩])
   (.seq (.reg [] [.run ⟨(some 4), none, .f (.mv (.c (.int .i64 0)))⟩])
   .ret)))))))
theorem k_wal_Log_Append : chkFn Try.prog n_wal_Log_Append ⟨b_wal_Log_Append, [.tmp 4], 42⟩ = true := by kernel_rfl
/-- (*fascine/wal.Log).At -/
abbrev n_wal_Log_At : Nat := 65
def b_wal_Log_At : Cd := (.seq (.reg [] [.run ⟨(some 4), none, .f (.mv (.c (.sl [] 0 1 .nil)))⟩,
    .run ⟨(some 5), none, .f (.mv (.c (.int .i64 0)))⟩])
   (.seq (.seq (.reg [] [.run ⟨(some 6), none, .f (.mv (.t 1))⟩,
    .run ⟨(some 7), none, .f (.bin .lss (.t 6) (.c (.int .i64 0)))⟩,
    .run ⟨(some 8), none, .f (.mv (.t 7))⟩,
    .run ⟨(some 9), (some (8, false)), .f (.mv (.t 1))⟩,
    .run ⟨(some 10), (some (8, false)), .f (.mv (.t 0))⟩,
    .run ⟨(some 11), (some (8, false)), .e (.call 41 [(.t 10)])⟩,
    .run ⟨(some 12), (some (8, false)), .f (.bin .geq (.t 9) (.t 11))⟩,
    .run ⟨(some 13), none, .f (.pick (.t 8) (.c (.bool true)) (.t 12))⟩])
   (.ite (.t 13)
   (.seq (.reg [] [.run ⟨(some 4), none, .f (.mv (.c (.sl [] 0 1 .nil)))⟩,
    .run ⟨(some 5), none, .f (.mv (.c (.int .i64 8)))⟩])
   .ret)
   .skip))
   (.seq (.reg [] [.run ⟨(some 14), none, .f (.mv (.t 0))⟩,
    .run ⟨(some 15), none, .f (.nilCheck (.t 14))⟩,
    .run ⟨(some 16), none, .f (.fieldAddr 2 (.t 15))⟩,
    .run ⟨(some 17), none, .f (.load false 1 (.t 16))⟩,
    .run ⟨(some 18), none, .f (.mv (.t 1))⟩,
    .run ⟨(some 19), none, .f (.indexAddr 1 (.t 17) (.t 18))⟩,
    .run ⟨(some 20), none, .f (.load false 1 (.t 19))⟩,
    .run ⟨(some 21), none, .e (.append 1 1 false (.c (.sl [] 0 1 .nil)) (.t 20))⟩,
    .run ⟨(some 4), none, .f (.mv (.t 21))⟩,
    .run ⟨(some 5), none, .f (.mv (.c (.int .i64 0)))⟩])
   .ret)))
theorem k_wal_Log_At : chkFn Try.prog n_wal_Log_At ⟨b_wal_Log_At, [.tmp 4, .tmp 5], 22⟩ = true := by kernel_rfl
/-- (*fascine/wal.Log).Len -/
abbrev n_wal_Log_Len : Nat := 41
def b_wal_Log_Len : Cd := (.seq (.reg [] [.run ⟨(some 2), none, .f (.mv (.c (.int .i64 0)))⟩])
   (.seq (.seq (.reg [] [.run ⟨(some 3), none, .f (.mv (.t 0))⟩,
    .run ⟨(some 4), none, .f (.eq false .ptr (.t 3) (.c (.ptr none)))⟩])
   (.ite (.t 4)
   (.seq (.reg [] [.run ⟨(some 2), none, .f (.mv (.c (.int .i64 0)))⟩])
   .ret)
   .skip))
   (.seq (.reg [] [.run ⟨(some 5), none, .f (.mv (.t 0))⟩,
    .run ⟨(some 6), none, .f (.nilCheck (.t 5))⟩,
    .run ⟨(some 7), none, .f (.fieldAddr 2 (.t 6))⟩,
    .run ⟨(some 8), none, .f (.load false 1 (.t 7))⟩,
    .run ⟨(some 9), none, .f (.len .sl (.t 8))⟩,
    .run ⟨(some 2), none, .f (.mv (.t 9))⟩])
   .ret)))
theorem k_wal_Log_Len : chkFn Try.prog n_wal_Log_Len ⟨b_wal_Log_Len, [.tmp 2], 10⟩ = true := by kernel_rfl
/-- (*fascine/wal.Log).Set -/
abbrev n_wal_Log_Set : Nat := 44
def l_wal_Log_Set_0 : Cd := (.seq (.reg [] [.run ⟨(some 34), none, .f (.bin .lss (.t 33) (.t 32))⟩])
   (.seq (.ite (.t 34)
   .skip
   (.exit 0))
   (.seq (.blk 1 (.seq (.reg [] [.run ⟨(some 35), none, .f (.indexAddr 1 (.t 31) (.t 33))⟩,
    .run ⟨(some 36), none, .f (.load false 1 (.t 35))⟩,
    .run ⟨(some 9), none, .f (.mv (.t 36))⟩])
   (.reg [] [.run ⟨(some 37), none, .f (.mv (.t 7))⟩,
    .run ⟨(some 38), none, .f (.mv (.t 9))⟩,
    .run ⟨(some 39), none, .e (.append 1 1 false (.c (.sl [] 0 1 .nil)) (.t 38))⟩,
    .run ⟨(some 40), none, .e (.buildSlice 1 1 0 [(.sl [] 0 1 .nil)] [(0, 1, (.t 39))])⟩,
    .run ⟨(some 41), none, .e (.append 1 24 false (.t 37) (.t 40))⟩,
    .run ⟨(some 7), none, .f (.mv (.t 41))⟩])))
   (.reg [] [.run ⟨(some 42), none, .f (.bin .add (.t 33) (.c (.int .i64 1)))⟩,
    .run ⟨(some 33), none, .f (.mv (.t 42))⟩]))))
def s_wal_Log_Set_0 : Cd := (.seq (.seq (.reg [] [.run ⟨(some 43), none, .f (.mv (.t 0))⟩,
    .run ⟨(some 44), none, .f (.mv (.t 7))⟩,
    .run ⟨(some 45), none, .e (.call 63 [(.t 43), (.t 44)])⟩,
    .run ⟨(some 10), none, .f (.mv (.t 45))⟩])
   (.seq (.reg [] [.run ⟨(some 46), none, .f (.mv (.t 10))⟩,
    .run ⟨(some 47), none, .f (.bin .neq (.t 46) (.c (.int .i64 0)))⟩])
   (.ite (.t 47)
   (.seq (.reg [] [.run ⟨(some 48), none, .f (.mv (.t 10))⟩,
    .run ⟨(some 6), none, .f (.mv (.t 48))⟩])
   .ret)
   .skip)))
   (.seq (.reg [] [.run ⟨(some 49), none, .f (.mv (.t 0))⟩,
    .run ⟨(some 50), none, .f (.mv (.t 7))⟩,
    .run ⟨(some 51), none, .f (.nilCheck (.t 49))⟩,
    .run ⟨(some 52), none, .f (.fieldAddr 2 (.t 51))⟩,
    .run ⟨none, none, .e (.store 1 (.t 52) (.t 50))⟩])
   (.seq (.reg [] [.run ⟨(some 6), none, .f (.mv (.c (.int .i64 0)))⟩])
   .ret)))
def b_wal_Log_Set : Cd := (.seq (.reg [] [.run ⟨(some 6), none, .f (.mv (.c (.int .i64 0)))⟩])
   (.seq (.seq (.reg [] [.run ⟨(some 11), none, .f (.mv (.t 0))⟩,
    .run ⟨(some 12), none, .f (.eq false .ptr (.t 11) (.c (.ptr none)))⟩])
   (.ite (.t 12)
   (.seq (.reg [] [.run ⟨(some 6), none, .f (.mv (.c (.int .i64 8)))⟩])
   .ret)
   .skip))
   (.seq (.seq (.reg [] [.run ⟨(some 13), none, .f (.mv (.t 1))⟩,
    .run ⟨(some 14), none, .f (.bin .lss (.t 13) (.c (.int .i64 0)))⟩,
    .run ⟨(some 15), none, .f (.mv (.t 14))⟩,
    .run ⟨(some 16), (some (15, false)), .f (.mv (.t 1))⟩,
    .run ⟨(some 17), (some (15, false)), .f (.mv (.t 0))⟩,
    .run ⟨(some 18), (some (15, false)), .f (.nilCheck (.t 17))⟩,
    .run ⟨(some 19), (some (15, false)), .f (.fieldAddr 2 (.t 18))⟩,
    .run ⟨(some 20), (some (15, false)), .f (.load false 1 (.t 19))⟩,
    .run ⟨(some 21), (some (15, false)), .f (.len .sl (.t 20))⟩,
    .run ⟨(some 22), (some (15, false)), .f (.bin .gtr (.t 16) (.t 21))⟩,
    .run ⟨(some 23), none, .f (.pick (.t 15) (.c (.bool true)) (.t 22))⟩])
   (.ite (.t 23)
   (.seq (.reg [] [.run ⟨(some 6), none, .f (.mv (.c (.int .i64 1)))⟩])
   .ret)
   .skip))
   (.seq (.reg [] [.run ⟨(some 24), none, .f (.mv (.t 0))⟩,
    .run ⟨(some 25), none, .f (.nilCheck (.t 24))⟩,
    .run ⟨(some 26), none, .f (.fieldAddr 2 (.t 25))⟩,
    .run ⟨(some 27), none, .f (.load false 1 (.t 26))⟩,
    .run ⟨(some 28), none, .f (.mv (.t 1))⟩,
    .run ⟨(some 29), none, .f (.slice 1 (.t 27) none (some (.t 28)) none)⟩,
    .run ⟨(some 30), none, .e (.append 1 24 false (.c (.sl [] 0 1 .nil)) (.t 29))⟩,
    .run ⟨(some 7), none, .f (.mv (.t 30))⟩])
   (.seq (.seq (.reg [] [.run ⟨(some 31), none, .f (.mv (.t 2))⟩,
    .run ⟨(some 32), none, .f (.len .sl (.t 31))⟩,
    .run ⟨(some 33), none, .f (.mv (.c (.int .i64 0)))⟩])
   (.blk 0 (.loop l_wal_Log_Set_0)))
   s_wal_Log_Set_0)))))
theorem k_wal_Log_Set : chkFn Try.prog n_wal_Log_Set ⟨b_wal_Log_Set, [.tmp 6], 53⟩ = true := by kernel_rfl
/-- (*fascine/wal.Log).Sync -/
abbrev n_wal_Log_Sync : Nat := 40
def b_wal_Log_Sync : Cd := (.seq (.reg [] [.run ⟨(some 2), none, .f (.mv (.c (.int .i64 0)))⟩])
   (.seq (.seq (.reg [] [.run ⟨(some 4), none, .f (.mv (.t 0))⟩,
    .run ⟨(some 5), none, .f (.eq false .ptr (.t 4) (.c (.ptr none)))⟩])
   (.ite (.t 5)
   (.seq (.reg [] [.run ⟨(some 2), none, .f (.mv (.c (.int .i64 8)))⟩])
   .ret)
   .skip))
   (.seq (.reg [0, 1, 2, 3, 4, 5, 6, 7, 8, 9] [.run ⟨(some 6), none, .f (.mv (.t 0))⟩,
    .run ⟨(some 7), none, .f (.nilCheck (.t 6))⟩,
    .run ⟨(some 8), none, .f (.fieldAddr 0 (.t 7))⟩,
    .run ⟨(some 9), none, .f (.load false 1 (.t 8))⟩,
    .run ⟨(some 10), none, .f (.mv (.t 0))⟩,
    .run ⟨(some 11), none, .f (.nilCheck (.t 10))⟩,
    .run ⟨(some 12), none, .f (.fieldAddr 1 (.t 11))⟩,
    .run ⟨(some 13), none, .f (.load false 1 (.t 12))⟩,
    .run ⟨(some 14), none, .e (.call 20 [(.t 9), (.t 13)])⟩,
    .run ⟨(some 3), none, .f (.mv (.t 14))⟩])
   (.seq (.seq (.reg [] [.run ⟨(some 15), none, .f (.mv (.t 3))⟩,
    .run ⟨(some 16), none, .f (.bin .eql (.t 15) (.c (.int .i64 8)))⟩,
    .run ⟨(some 17), none, .f (.mv (.t 16))⟩,
    .run ⟨(some 18), (some (17, true)), .f (.mv (.t 0))⟩,
    .run ⟨(some 19), (some (17, true)), .f (.nilCheck (.t 18))⟩,
    .run ⟨(some 20), (some (17, true)), .f (.fieldAddr 2 (.t 19))⟩,
    .run ⟨(some 21), (some (17, true)), .f (.load false 1 (.t 20))⟩,
    .run ⟨(some 22), (some (17, true)), .f (.len .sl (.t 21))⟩,
    .run ⟨(some 23), (some (17, true)), .f (.bin .eql (.t 22) (.c (.int .i64 0)))⟩,
    .run ⟨(some 24), none, .f (.pick (.t 17) (.t 23) (.c (.bool false)))⟩])
   (.ite (.t 24)
   (.seq (.reg [] [.run ⟨(some 2), none, .f (.mv (.c (.int .i64 0)))⟩])
   .ret)
   .skip))
   (.seq (.reg [] [.run ⟨(some 25), none, .f (.mv (.t 3))⟩,
    .run ⟨(some 2), none, .f (.mv (.t 25))⟩])
   .ret)))))
theorem k_wal_Log_Sync : chkFn Try.prog n_wal_Log_Sync ⟨b_wal_Log_Sync, [.tmp 2], 26⟩ = true := by kernel_rfl
/-- (*fascine/wal.Log).write -/
abbrev n_wal_Log_write : Nat := 63
def r_wal_Log_write_0 : Cd := (.seq (.blk 1 (.seq (.reg [] [.run ⟨(some 15), none, .f (.indexAddr 1 (.t 11) (.t 13))⟩,
    .run ⟨(some 16), none, .f (.load false 1 (.t 15))⟩,
    .run ⟨(some 7), none, .f (.mv (.t 16))⟩])
   (.seq (.reg [] [.run ⟨(some 18), none, .f (.mv (.t 7))⟩,
    .run ⟨(some 19), none, .e (.call 64 [(.t 18)])⟩,
    .run ⟨(some 17), none, .f (.mv (.t 19))⟩,
    .run ⟨(some 20), none, .f (.extract (.t 17) 0)⟩,
    .run ⟨(some 21), none, .f (.extract (.t 17) 1)⟩,
    .run ⟨(some 8), none, .f (.mv (.t 20))⟩,
    .run ⟨(some 9), none, .f (.mv (.t 21))⟩])
   (.seq (.seq (.reg [] [.run ⟨(some 22), none, .f (.mv (.t 9))⟩,
    .run ⟨(some 23), none, .f (.bin .neq (.t 22) (.c (.int .i64 0)))⟩])
   (.ite (.t 23)
   (.seq (.reg [] [.run ⟨(some 24), none, .f (.mv (.t 9))⟩,
    .run ⟨(some 4), none, .f (.mv (.t 24))⟩])
   .ret)
   .skip))
   (.reg [] [.run ⟨(some 25), none, .f (.mv (.t 5))⟩,
    .run ⟨(some 26), none, .f (.mv (.t 8))⟩,
    .run ⟨(some 27), none, .e (.append 1 1 false (.t 25) (.t 26))⟩,
    .run ⟨(some 5), none, .f (.mv (.t 27))⟩])))))
   (.reg [] [.run ⟨(some 28), none, .f (.bin .add (.t 13) (.c (.int .i64 1)))⟩,
    .run ⟨(some 13), none, .f (.mv (.t 28))⟩]))
def l_wal_Log_write_0 : Cd := (.seq (.reg [] [.run ⟨(some 14), none, .f (.bin .lss (.t 13) (.t 12))⟩])
   (.seq (.ite (.t 14)
   .skip
   (.exit 0))
   r_wal_Log_write_0))
def r_wal_Log_write_1 : Cd := (.seq (.seq (.reg [] [.run ⟨(some 68), none, .f (.mv (.t 10))⟩,
    .run ⟨(some 69), none, .f (.bin .neq (.t 68) (.c (.int .i64 0)))⟩,
    .run ⟨(some 70), none, .f (.mv (.t 69))⟩,
    .run ⟨(some 71), (some (70, true)), .f (.mv (.t 10))⟩,
    .run ⟨(some 72), (some (70, true)), .f (.bin .neq (.t 71) (.c (.int .i64 10)))⟩,
    .run ⟨(some 73), none, .f (.pick (.t 70) (.t 72) (.c (.bool false)))⟩])
   (.ite (.t 73)
   (.reg [0, 1, 2, 3, 4, 5, 6, 7, 8, 9] [.run ⟨(some 74), none, .f (.mv (.t 0))⟩,
    .run ⟨(some 75), none, .f (.nilCheck (.t 74))⟩,
    .run ⟨(some 76), none, .f (.fieldAddr 0 (.t 75))⟩,
    .run ⟨(some 77), none, .f (.load false 1 (.t 76))⟩,
    .run ⟨(some 78), none, .f (.mv (.t 0))⟩,
    .run ⟨(some 79), none, .f (.nilCheck (.t 78))⟩,
    .run ⟨(some 80), none, .f (.fieldAddr 1 (.t 79))⟩,
    .run ⟨(some 81), none, .f (.load false 1 (.t 80))⟩,
    .run ⟨(some 82), none, .f (.bin .add (.t 81) (.c (.str (mkS [46, 110, 101, 119]))))⟩,
    .run ⟨(some 83), none, .e (.call 32 [(.t 77), (.t 82)])⟩])
   .skip))
   (.seq (.reg [] [.run ⟨(some 84), none, .f (.mv (.t 10))⟩,
    .run ⟨(some 4), none, .f (.mv (.t 84))⟩])
   .ret))
def r_wal_Log_write_2 : Cd := (.seq (.seq (.reg [] [.run ⟨(some 52), none, .f (.mv (.t 10))⟩,
    .run ⟨(some 53), none, .f (.bin .eql (.t 52) (.c (.int .i64 0)))⟩])
   (.ite (.t 53)
   (.reg [0, 1, 2, 3, 4, 5, 6, 7, 8, 9, 10, 11, 12, 13, 14] [.run ⟨(some 54), none, .f (.mv (.t 0))⟩,
    .run ⟨(some 55), none, .f (.nilCheck (.t 54))⟩,
    .run ⟨(some 56), none, .f (.fieldAddr 0 (.t 55))⟩,
    .run ⟨(some 57), none, .f (.load false 1 (.t 56))⟩,
    .run ⟨(some 58), none, .f (.mv (.t 0))⟩,
    .run ⟨(some 59), none, .f (.nilCheck (.t 58))⟩,
    .run ⟨(some 60), none, .f (.fieldAddr 1 (.t 59))⟩,
    .run ⟨(some 61), none, .f (.load false 1 (.t 60))⟩,
    .run ⟨(some 62), none, .f (.bin .add (.t 61) (.c (.str (mkS [46, 110, 101, 119]))))⟩,
    .run ⟨(some 63), none, .f (.mv (.t 0))⟩,
    .run ⟨(some 64), none, .f (.nilCheck (.t 63))⟩,
    .run ⟨(some 65), none, .f (.fieldAddr 1 (.t 64))⟩,
    .run ⟨(some 66), none, .f (.load false 1 (.t 65))⟩,
    .run ⟨(some 67), none, .e (.call 26 [(.t 57), (.t 62), (.t 66)])⟩,
    .run ⟨(some 10), none, .f (.mv (.t 67))⟩])
   .skip))
   r_wal_Log_write_1)
def s_wal_Log_write_0 : Cd := (.seq (.reg [0, 1, 2, 3, 4, 5, 6, 7, 8, 9, 10, 11] [.run ⟨(some 29), none, .f (.mv (.t 0))⟩,
    .run ⟨(some 30), none, .f (.nilCheck (.t 29))⟩,
    .run ⟨(some 31), none, .f (.fieldAddr 0 (.t 30))⟩,
    .run ⟨(some 32), none, .f (.load false 1 (.t 31))⟩,
    .run ⟨(some 33), none, .f (.mv (.t 0))⟩,
    .run ⟨(some 34), none, .f (.nilCheck (.t 33))⟩,
    .run ⟨(some 35), none, .f (.fieldAddr 1 (.t 34))⟩,
    .run ⟨(some 36), none, .f (.load false 1 (.t 35))⟩,
    .run ⟨(some 37), none, .f (.bin .add (.t 36) (.c (.str (mkS [46, 110, 101, 119]))))⟩,
    .run ⟨(some 38), none, .f (.mv (.t 5))⟩,
    .run ⟨(some 39), none, .e (.call 25 [(.t 32), (.t 37), (.t 38)])⟩,
    .run ⟨(some 10), none, .f (.mv (.t 39))⟩])
   (.seq (.seq (.reg [] [.run ⟨(some 40), none, .f (.mv (.t 10))⟩,
    .run ⟨(some 41), none, .f (.bin .eql (.t 40) (.c (.int .i64 0)))⟩])
   (.ite (.t 41)
   (.reg [0, 1, 2, 3, 4, 5, 6, 7, 8, 9, 10] [.run ⟨(some 42), none, .f (.mv (.t 0))⟩,
    .run ⟨(some 43), none, .f (.nilCheck (.t 42))⟩,
    .run ⟨(some 44), none, .f (.fieldAddr 0 (.t 43))⟩,
    .run ⟨(some 45), none, .f (.load false 1 (.t 44))⟩,
    .run ⟨(some 46), none, .f (.mv (.t 0))⟩,
    .run ⟨(some 47), none, .f (.nilCheck (.t 46))⟩,
    .run ⟨(some 48), none, .f (.fieldAddr 1 (.t 47))⟩,
    .run ⟨(some 49), none, .f (.load false 1 (.t 48))⟩,
    .run ⟨(some 50), none, .f (.bin .add (.t 49) (.c (.str (mkS [46, 110, 101, 119]))))⟩,
    .run ⟨(some 51), none, .e (.call 20 [(.t 45), (.t 50)])⟩,
    .run ⟨(some 10), none, .f (.mv (.t 51))⟩])
   .skip))
   r_wal_Log_write_2))
def b_wal_Log_write : Cd := (.seq (.reg [] [.run ⟨(some 4), none, .f (.mv (.c (.int .i64 0)))⟩])
   (.seq (.reg [] [.run ⟨(some 5), none, .f (.mv (.c (.sl [] 0 1 .nil)))⟩])
   (.seq (.seq (.reg [] [.run ⟨(some 11), none, .f (.mv (.t 1))⟩,
    .run ⟨(some 12), none, .f (.len .sl (.t 11))⟩,
    .run ⟨(some 13), none, .f (.mv (.c (.int .i64 0)))⟩])
   (.blk 0 (.loop l_wal_Log_write_0)))
   s_wal_Log_write_0)))
theorem k_wal_Log_write : chkFn Try.prog n_wal_Log_write ⟨b_wal_Log_write, [.tmp 4], 85⟩ = true := by kernel_rfl
/-- fascine/wal.Open -/
abbrev n_wal_Open : Nat := 38
def r_wal_Open_0 : Cd := (.seq (.reg [] [.run ⟨(some 48), none, .f (.mv (.t 7))⟩,
    .run ⟨(some 49), none, .e (.call 35 [(.t 48)])⟩,
    .run ⟨(some 47), none, .f (.mv (.t 49))⟩,
    .run ⟨(some 50), none, .f (.extract (.t 47) 0)⟩,
    .run ⟨(some 51), none, .f (.extract (.t 47) 1)⟩,
    .run ⟨(some 9), none, .f (.mv (.t 50))⟩,
    .run ⟨(some 10), none, .f (.mv (.t 51))⟩])
   (.seq (.reg [] [.run ⟨(some 52), none, .f (.mv (.t 0))⟩,
    .run ⟨(some 53), none, .f (.mv (.t 1))⟩,
    .run ⟨(some 54), none, .f (.mv (.t 9))⟩,
    .run ⟨(some 55), none, .f (.build [(.ptr none), (.str (mkS [])), (.sl [] 0 1 .nil)] [(0, 1, (.t 52)), (1, 1, (.t 53)), (2, 1, (.t 54))])⟩,
    .run ⟨(some 56), none, .e (.box (.t 55))⟩,
    .run ⟨(some 11), none, .f (.mv (.t 56))⟩])
   (.seq (.seq (.reg [] [.run ⟨(some 57), none, .f (.mv (.t 10))⟩,
    .run ⟨(some 58), none, .f (.mv (.t 7))⟩,
    .run ⟨(some 59), none, .f (.len .sl (.t 58))⟩,
    .run ⟨(some 60), none, .f (.bin .lss (.t 57) (.t 59))⟩])
   (.ite (.t 60)
   (.seq (.reg [] [.run ⟨(some 61), none, .f (.mv (.t 11))⟩,
    .run ⟨(some 62), none, .f (.mv (.t 9))⟩,
    .run ⟨(some 63), none, .e (.call 63 [(.t 61), (.t 62)])⟩,
    .run ⟨(some 12), none, .f (.mv (.t 63))⟩])
   (.seq (.reg [] [.run ⟨(some 64), none, .f (.mv (.t 12))⟩,
    .run ⟨(some 65), none, .f (.bin .neq (.t 64) (.c (.int .i64 0)))⟩])
   (.ite (.t 65)
   (.seq (.reg [] [.run ⟨(some 66), none, .f (.mv (.t 12))⟩,
    .run ⟨(some 4), none, .f (.mv (.c (.ptr none)))⟩,
    .run ⟨(some 5), none, .f (.mv (.t 66))⟩])
   .ret)
   .skip)))
   .skip))
   (.seq (.reg [] [.run ⟨(some 67), none, .f (.mv (.t 11))⟩,
    .run ⟨(some 4), none, .f (.mv (.t 67))⟩,
    .run ⟨(some 5), none, .f (.mv (.c (.int .i64 0)))⟩])
   .ret))))
def r_wal_Open_1 : Cd := (.seq (.reg [] [.run ⟨(some 35), none, .f (.mv (.t 0))⟩,
    .run ⟨(some 36), none, .f (.mv (.t 1))⟩,
    .run ⟨(some 37), none, .e (.call 21 [(.t 35), (.t 36)])⟩,
    .run ⟨(some 34), none, .f (.mv (.t 37))⟩,
    .run ⟨(some 38), none, .f (.extract (.t 34) 0)⟩,
    .run ⟨(some 39), none, .f (.extract (.t 34) 1)⟩,
    .run ⟨(some 7), none, .f (.mv (.t 38))⟩,
    .run ⟨(some 8), none, .f (.mv (.t 39))⟩])
   (.seq (.seq (.reg [] [.run ⟨(some 40), none, .f (.mv (.t 8))⟩,
    .run ⟨(some 41), none, .f (.bin .neq (.t 40) (.c (.int .i64 0)))⟩,
    .run ⟨(some 42), none, .f (.mv (.t 41))⟩,
    .run ⟨(some 43), (some (42, true)), .f (.mv (.t 8))⟩,
    .run ⟨(some 44), (some (42, true)), .f (.bin .neq (.t 43) (.c (.int .i64 8)))⟩,
    .run ⟨(some 45), none, .f (.pick (.t 42) (.t 44) (.c (.bool false)))⟩])
   (.ite (.t 45)
   (.seq (.reg [] [.run ⟨(some 46), none, .f (.mv (.t 8))⟩,
    .run ⟨(some 4), none, .f (.mv (.c (.ptr none)))⟩,
    .run ⟨(some 5), none, .f (.mv (.t 46))⟩])
   .ret)
   .skip))
   r_wal_Open_0))
def r_wal_Open_2 : Cd := (.seq (.seq (.reg [] [.run ⟨(some 23), none, .f (.mv (.t 0))⟩,
    .run ⟨(some 24), none, .f (.mv (.t 1))⟩,
    .run ⟨(some 25), none, .f (.bin .add (.t 24) (.c (.str (mkS [46, 110, 101, 119]))))⟩,
    .run ⟨(some 26), none, .e (.call 32 [(.t 23), (.t 25)])⟩,
    .run ⟨(some 6), none, .f (.mv (.t 26))⟩])
   (.seq (.reg [] [.run ⟨(some 27), none, .f (.mv (.t 6))⟩,
    .run ⟨(some 28), none, .f (.bin .neq (.t 27) (.c (.int .i64 0)))⟩,
    .run ⟨(some 29), none, .f (.mv (.t 28))⟩,
    .run ⟨(some 30), (some (29, true)), .f (.mv (.t 6))⟩,
    .run ⟨(some 31), (some (29, true)), .f (.bin .neq (.t 30) (.c (.int .i64 8)))⟩,
    .run ⟨(some 32), none, .f (.pick (.t 29) (.t 31) (.c (.bool false)))⟩])
   (.ite (.t 32)
   (.seq (.reg [] [.run ⟨(some 33), none, .f (.mv (.t 6))⟩,
    .run ⟨(some 4), none, .f (.mv (.c (.ptr none)))⟩,
    .run ⟨(some 5), none, .f (.mv (.t 33))⟩])
   .ret)
   .skip)))
   r_wal_Open_1)
def b_wal_Open : Cd := (.seq (.reg [] [.run ⟨(some 4), none, .f (.mv (.c (.ptr none)))⟩,
    .run ⟨(some 5), none, .f (.mv (.c (.int .i64 0)))⟩])
   (.seq (.seq (.reg [] [.run ⟨(some 13), none, .f (.mv (.t 0))⟩,
    .run ⟨(some 14), none, .f (.eq false .ptr (.t 13) (.c (.ptr none)))⟩])
   (.ite (.t 14)
   (.seq (.reg [] [.run ⟨(some 4), none, .f (.mv (.c (.ptr none)))⟩,
    .run ⟨(some 5), none, .f (.mv (.c (.int .i64 8)))⟩])
   .ret)
   .skip))
   (.seq (.seq (.reg [] [.run ⟨(some 15), none, .f (.mv (.t 1))⟩,
    .run ⟨(some 16), none, .e (.call 16 [(.t 15)])⟩,
    .run ⟨(some 17), none, .f (.un .not (.t 16))⟩,
    .run ⟨(some 18), none, .f (.mv (.t 17))⟩,
    .run ⟨(some 19), (some (18, false)), .f (.mv (.t 1))⟩,
    .run ⟨(some 20), (some (18, false)), .f (.len .str (.t 19))⟩,
    .run ⟨(some 21), (some (18, false)), .f (.bin .gtr (.t 20) (.c (.int .i64 28)))⟩,
    .run ⟨(some 22), none, .f (.pick (.t 18) (.c (.bool true)) (.t 21))⟩])
   (.ite (.t 22)
   (.seq (.reg [] [.run ⟨(some 4), none, .f (.mv (.c (.ptr none)))⟩,
    .run ⟨(some 5), none, .f (.mv (.c (.int .i64 1)))⟩])
   .ret)
   .skip))
   r_wal_Open_2)))
theorem k_wal_Open : chkFn Try.prog n_wal_Open ⟨b_wal_Open, [.tmp 4, .tmp 5], 68⟩ = true := by kernel_rfl
/-- fascine/wal.Scan -/
abbrev n_wal_Scan : Nat := 35
def l_wal_Scan_0 : Cd := (.blk 1 (.seq (.reg [] [.run ⟨(some 10), none, .f (.mv (.t 0))⟩,
    .run ⟨(some 11), none, .f (.mv (.t 5))⟩,
    .run ⟨(some 12), none, .e (.call 61 [(.t 10), (.t 11)])⟩,
    .run ⟨(some 9), none, .f (.mv (.t 12))⟩,
    .run ⟨(some 13), none, .f (.extract (.t 9) 0)⟩,
    .run ⟨(some 14), none, .f (.extract (.t 9) 1)⟩,
    .run ⟨(some 15), none, .f (.extract (.t 9) 2)⟩,
    .run ⟨(some 6), none, .f (.mv (.t 13))⟩,
    .run ⟨(some 7), none, .f (.mv (.t 14))⟩,
    .run ⟨(some 8), none, .f (.mv (.t 15))⟩])
   (.seq (.seq (.reg [] [.run ⟨(some 16), none, .f (.mv (.t 8))⟩,
    .run ⟨(some 17), none, .f (.bin .neq (.t 16) (.c (.int .i64 0)))⟩])
   (.ite (.t 17)
   (.seq (.reg [] [.run ⟨(some 18), none, .f (.mv (.t 4))⟩,
    .run ⟨(some 19), none, .f (.mv (.t 5))⟩,
    .run ⟨(some 2), none, .f (.mv (.t 18))⟩,
    .run ⟨(some 3), none, .f (.mv (.t 19))⟩])
   .ret)
   .skip))
   (.reg [] [.run ⟨(some 20), none, .f (.mv (.t 4))⟩,
    .run ⟨(some 21), none, .f (.mv (.t 6))⟩,
    .run ⟨(some 22), none, .e (.buildSlice 1 1 0 [(.sl [] 0 1 .nil)] [(0, 1, (.t 21))])⟩,
    .run ⟨(some 23), none, .e (.append 1 24 false (.t 20) (.t 22))⟩,
    .run ⟨(some 24), none, .f (.mv (.t 7))⟩,
    .run ⟨(some 4), none, .f (.mv (.t 23))⟩,
    .run ⟨(some 5), none, .f (.mv (.t 24))⟩]))))
def b_wal_Scan : Cd := (.seq (.reg [] [.run ⟨(some 2), none, .f (.mv (.c (.sl [] 0 1 .nil)))⟩,
    .run ⟨(some 3), none, .f (.mv (.c (.int .i64 0)))⟩])
   (.seq (.reg [] [.run ⟨(some 4), none, .f (.mv (.c (.sl [] 0 1 .nil)))⟩])
   (.seq (.reg [] [.run ⟨(some 5), none, .f (.mv (.c (.int .i64 0)))⟩])
   (.blk 0 (.loop l_wal_Scan_0)))))
theorem k_wal_Scan : chkFn Try.prog n_wal_Scan ⟨b_wal_Scan, [.tmp 2, .tmp 3], 25⟩ = true := by kernel_rfl
end Go.VM
