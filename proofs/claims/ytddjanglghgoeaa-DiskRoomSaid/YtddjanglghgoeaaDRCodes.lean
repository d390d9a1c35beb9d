/-
  The codes of functions, as the value machine has them, and that they stand for the model's (printed by a program, wip/gen).
-/
import Derived.Test.YtddjanglghgoeaaDCodes
import Derived.Test.YtddjanglghgoeaaProg
import Derived.KernelRfl
set_option linter.unusedVariables false
set_option maxRecDepth 100000
namespace Go.VM
open Go Go.Proofs

/-- fascine/fascinelaw02.DiskPlays -/
abbrev n_l02_DiskPlays : Nat := 7
def k_l02_DiskPlays_0 : Cd := (.seq (.seq (.reg [] [.run ⟨(some 49), none, .f (.mv (.t 1))⟩,
    .run ⟨(some 50), none, .f (.mv (.t 8))⟩,
    .run ⟨(some 51), none, .f (.indexAddr 6 (.t 49) (.t 50))⟩,
    .run ⟨(some 52), none, .f (.fieldAddr 1 (.t 51))⟩,
    .run ⟨(some 53), none, .f (.load false 1 (.t 52))⟩,
    .run ⟨(some 54), none, .f (.bin .eql (.t 53) (.c (.str (mkS [110, 111, 45, 115, 117, 99, 104, 45, 102, 105, 108, 101]))))⟩,
    .run ⟨(some 55), none, .f (.mv (.t 54))⟩,
    .run ⟨(some 56), (some (55, false)), .f (.mv (.t 1))⟩,
    .run ⟨(some 57), (some (55, false)), .f (.mv (.t 8))⟩,
    .run ⟨(some 58), (some (55, false)), .f (.indexAddr 6 (.t 56) (.t 57))⟩,
    .run ⟨(some 59), (some (55, false)), .f (.fieldAddr 2 (.t 58))⟩,
    .run ⟨(some 60), (some (55, false)), .f (.load false 1 (.t 59))⟩,
    .run ⟨(some 61), (some (55, false)), .f (.bin .eql (.t 60) (.c (.str (mkS [110, 111, 45, 115, 117, 99, 104, 45, 102, 105, 108, 101]))))⟩,
    .run ⟨(some 62), none, .f (.pick (.t 55) (.c (.bool true)) (.t 61))⟩])
   (.ite (.t 62)
   (.seq (.reg [] [.run ⟨(some 4), none, .f (.mv (.c (.bool true)))⟩])
   .ret)
   .skip))
   (.seq (.reg [] [.run ⟨(some 63), none, .f (.mv (.t 5))⟩,
    .run ⟨(some 64), none, .f (.mv (.t 7))⟩,
    .run ⟨(some 65), none, .f (.mv (.t 1))⟩,
    .run ⟨(some 66), none, .f (.mv (.t 8))⟩,
    .run ⟨(some 67), none, .f (.indexAddr 6 (.t 65) (.t 66))⟩,
    .run ⟨(some 68), none, .f (.load true 6 (.t 67))⟩,
    .run ⟨(some 69), none, .e (.call 27 [(.t 63), (.t 64), (.t 68)])⟩,
    .run ⟨(some 70), none, .f (.un .not (.t 69))⟩,
    .run ⟨(some 71), none, .f (.mv (.t 70))⟩,
    .run ⟨(some 72), (some (71, false)), .f (.mv (.t 5))⟩,
    .run ⟨(some 73), (some (71, false)), .f (.mv (.t 7))⟩,
    .run ⟨(some 74), (some (71, false)), .e (.call 31 [(.t 72), (.t 73)])⟩,
    .run ⟨(some 75), (some (71, false)), .f (.un .not (.t 74))⟩,
    .run ⟨(some 76), none, .f (.pick (.t 71) (.c (.bool true)) (.t 75))⟩])
   (.ite (.t 76)
   (.seq (.reg [] [.run ⟨(some 4), none, .f (.mv (.c (.bool false)))⟩])
   .ret)
   .skip)))
def l_l02_DiskPlays_0 : Cd := (.seq (.seq (.reg [] [.run ⟨(some 39), none, .f (.mv (.t 8))⟩,
    .run ⟨(some 40), none, .f (.mv (.t 1))⟩,
    .run ⟨(some 41), none, .f (.len .sl (.t 40))⟩,
    .run ⟨(some 42), none, .f (.bin .lss (.t 39) (.t 41))⟩,
    .run ⟨(some 43), none, .f (.mv (.t 42))⟩,
    .run ⟨(some 44), (some (43, true)), .f (.mv (.t 8))⟩,
    .run ⟨(some 45), (some (43, true)), .f (.bin .lss (.t 44) (.c (.int .i64 100)))⟩,
    .run ⟨(some 46), none, .f (.pick (.t 43) (.t 45) (.c (.bool false)))⟩])
   (.ite (.t 46)
   .skip
   (.exit 0)))
   (.seq (.blk 1 k_l02_DiskPlays_0)
   (.reg [] [.run ⟨(some 47), none, .f (.mv (.t 8))⟩,
    .run ⟨(some 48), none, .f (.bin .add (.t 47) (.c (.int .i64 1)))⟩,
    .run ⟨(some 8), none, .f (.mv (.t 48))⟩])))
def b_l02_DiskPlays : Cd := (.seq (.reg [] [.run ⟨(some 4), none, .f (.mv (.c (.bool false)))⟩])
   (.seq (.seq (.reg [] [.run ⟨(some 9), none, .e (.call 15 [])⟩,
    .run ⟨(some 10), none, .f (.un .not (.t 9))⟩,
    .run ⟨(some 11), none, .f (.mv (.t 10))⟩,
    .run ⟨(some 12), none, .f (.pick (.t 11) (.c (.bool true)) (.c (.bool false)))⟩])
   (.ite (.t 12)
   (.seq (.reg [] [.run ⟨(some 4), none, .f (.mv (.c (.bool false)))⟩])
   .ret)
   .skip))
   (.seq (.reg [] [.run ⟨(some 14), none, .f (.mv (.t 0))⟩,
    .run ⟨(some 15), none, .e (.call 18 [(.t 14)])⟩,
    .run ⟨(some 13), none, .f (.mv (.t 15))⟩,
    .run ⟨(some 16), none, .f (.extract (.t 13) 0)⟩,
    .run ⟨(some 17), none, .f (.extract (.t 13) 1)⟩,
    .run ⟨(some 5), none, .f (.mv (.t 16))⟩,
    .run ⟨(some 6), none, .f (.mv (.t 17))⟩])
   (.seq (.seq (.reg [] [.run ⟨(some 18), none, .f (.mv (.t 0))⟩,
    .run ⟨(some 19), none, .f (.bin .lss (.t 18) (.c (.int .i64 0)))⟩,
    .run ⟨(some 20), none, .f (.mv (.t 19))⟩,
    .run ⟨(some 21), (some (20, false)), .f (.mv (.t 0))⟩,
    .run ⟨(some 22), (some (20, false)), .f (.bin .gtr (.t 21) (.c (.int .i64 67108864)))⟩,
    .run ⟨(some 23), none, .f (.pick (.t 20) (.c (.bool true)) (.t 22))⟩])
   (.ite (.t 23)
   (.seq (.reg [] [.run ⟨(some 24), none, .f (.mv (.t 6))⟩,
    .run ⟨(some 25), none, .f (.bin .eql (.t 24) (.c (.int .i64 1)))⟩,
    .run ⟨(some 26), none, .f (.mv (.t 25))⟩,
    .run ⟨(some 27), (some (26, true)), .f (.mv (.t 5))⟩,
    .run ⟨(some 28), (some (26, true)), .f (.eq false .ptr (.t 27) (.c (.ptr none)))⟩,
    .run ⟨(some 29), none, .f (.pick (.t 26) (.t 28) (.c (.bool false)))⟩,
    .run ⟨(some 4), none, .f (.mv (.t 29))⟩])
   .ret)
   .skip))
   (.seq (.seq (.reg [] [.run ⟨(some 30), none, .f (.mv (.t 6))⟩,
    .run ⟨(some 31), none, .f (.bin .neq (.t 30) (.c (.int .i64 0)))⟩,
    .run ⟨(some 32), none, .f (.mv (.t 31))⟩,
    .run ⟨(some 33), (some (32, false)), .f (.mv (.t 5))⟩,
    .run ⟨(some 34), (some (32, false)), .f (.eq false .ptr (.t 33) (.c (.ptr none)))⟩,
    .run ⟨(some 35), none, .f (.pick (.t 32) (.c (.bool true)) (.t 34))⟩])
   (.ite (.t 35)
   (.seq (.reg [] [.run ⟨(some 4), none, .f (.mv (.c (.bool false)))⟩])
   .ret)
   .skip))
   (.seq (.reg [] [.run ⟨(some 36), none, .f (.mv (.t 0))⟩,
    .run ⟨(some 37), none, .f (.build [(.sl [] 0 3 .nil), (.int .i64 0), (.int .i64 0), (.bool false), (.int .i64 0)] [(1, 1, (.t 36))])⟩,
    .run ⟨(some 38), none, .e (.box (.t 37))⟩,
    .run ⟨(some 7), none, .f (.mv (.t 38))⟩])
   (.seq (.seq (.reg [] [.run ⟨(some 8), none, .f (.mv (.c (.int .i64 0)))⟩])
   (.blk 0 (.loop l_l02_DiskPlays_0)))
   (.seq (.reg [] [.run ⟨(some 4), none, .f (.mv (.c (.bool true)))⟩])
   .ret))))))))
theorem k_l02_DiskPlays : chkFn Try.prog n_l02_DiskPlays ⟨b_l02_DiskPlays, [.tmp 4], 77⟩ = true := by kernel_rfl
/-- fascine/fascinelaw02.DiskRoom -/
abbrev n_l02_DiskRoom : Nat := 6
def k_l02_DiskRoom_0 : Cd := (.seq (.reg [] [.run ⟨(some 58), none, .f (.mv (.t 5))⟩,
    .run ⟨(some 59), none, .f (.mv (.t 9))⟩,
    .run ⟨(some 60), none, .f (.mv (.t 11))⟩,
    .run ⟨(some 61), none, .f (.indexAddr 1 (.t 59) (.t 60))⟩,
    .run ⟨(some 62), none, .f (.load false 1 (.t 61))⟩,
    .run ⟨(some 63), none, .e (.call 21 [(.t 58), (.t 62)])⟩,
    .run ⟨(some 57), none, .f (.mv (.t 63))⟩,
    .run ⟨(some 64), none, .f (.extract (.t 57) 0)⟩,
    .run ⟨(some 65), none, .f (.extract (.t 57) 1)⟩,
    .run ⟨(some 12), none, .f (.mv (.t 64))⟩,
    .run ⟨(some 13), none, .f (.mv (.t 65))⟩])
   (.seq (.seq (.reg [] [.run ⟨(some 66), none, .f (.mv (.t 13))⟩,
    .run ⟨(some 67), none, .f (.bin .neq (.t 66) (.c (.int .i64 0)))⟩,
    .run ⟨(some 68), none, .f (.mv (.t 67))⟩,
    .run ⟨(some 69), (some (68, false)), .f (.mv (.t 5))⟩,
    .run ⟨(some 70), (some (68, false)), .f (.mv (.t 9))⟩,
    .run ⟨(some 71), (some (68, false)), .f (.mv (.t 11))⟩,
    .run ⟨(some 72), (some (68, false)), .f (.indexAddr 1 (.t 70) (.t 71))⟩,
    .run ⟨(some 73), (some (68, false)), .f (.load false 1 (.t 72))⟩,
    .run ⟨(some 74), (some (68, false)), .e (.call 23 [(.t 69), (.t 73)])⟩,
    .run ⟨(some 75), (some (68, false)), .f (.mv (.t 12))⟩,
    .run ⟨(some 76), (some (68, false)), .f (.len .sl (.t 75))⟩,
    .run ⟨(some 77), (some (68, false)), .f (.bin .gtr (.t 74) (.t 76))⟩,
    .run ⟨(some 78), none, .f (.pick (.t 68) (.c (.bool true)) (.t 77))⟩])
   (.ite (.t 78)
   (.seq (.reg [] [.run ⟨(some 4), none, .f (.mv (.c (.bool false)))⟩])
   .ret)
   .skip))
   (.reg [] [.run ⟨(some 79), none, .f (.mv (.t 10))⟩,
    .run ⟨(some 80), none, .f (.mv (.t 12))⟩,
    .run ⟨(some 81), none, .f (.len .sl (.t 80))⟩,
    .run ⟨(some 82), none, .f (.bin .add (.t 79) (.t 81))⟩,
    .run ⟨(some 10), none, .f (.mv (.t 82))⟩])))
def l_l02_DiskRoom_0 : Cd := (.seq (.seq (.reg [] [.run ⟨(some 47), none, .f (.mv (.t 11))⟩,
    .run ⟨(some 48), none, .f (.mv (.t 9))⟩,
    .run ⟨(some 49), none, .f (.len .sl (.t 48))⟩,
    .run ⟨(some 50), none, .f (.bin .lss (.t 47) (.t 49))⟩,
    .run ⟨(some 51), none, .f (.mv (.t 50))⟩,
    .run ⟨(some 52), (some (51, true)), .f (.mv (.t 5))⟩,
    .run ⟨(some 53), (some (51, true)), .e (.call 29 [(.t 52)])⟩,
    .run ⟨(some 54), none, .f (.pick (.t 51) (.t 53) (.c (.bool false)))⟩])
   (.ite (.t 54)
   .skip
   (.exit 2)))
   (.seq (.blk 3 k_l02_DiskRoom_0)
   (.reg [] [.run ⟨(some 55), none, .f (.mv (.t 11))⟩,
    .run ⟨(some 56), none, .f (.bin .add (.t 55) (.c (.int .i64 1)))⟩,
    .run ⟨(some 11), none, .f (.mv (.t 56))⟩])))
def s_l02_DiskRoom_0 : Cd := (.seq (.reg [] [.run ⟨(some 83), none, .f (.mv (.t 5))⟩,
    .run ⟨(some 84), none, .e (.call 30 [(.t 83)])⟩,
    .run ⟨(some 85), none, .f (.mv (.t 0))⟩,
    .run ⟨(some 86), none, .f (.conv (.int .i64) (.t 85))⟩,
    .run ⟨(some 87), none, .f (.bin .gtr (.t 84) (.t 86))⟩,
    .run ⟨(some 88), none, .f (.mv (.t 87))⟩,
    .run ⟨(some 89), (some (88, false)), .f (.mv (.t 5))⟩,
    .run ⟨(some 90), (some (88, false)), .e (.call 29 [(.t 89)])⟩,
    .run ⟨(some 91), (some (88, false)), .f (.mv (.t 90))⟩,
    .run ⟨(some 92), (some (91, true)), .f (.mv (.t 10))⟩,
    .run ⟨(some 93), (some (91, true)), .f (.mv (.t 5))⟩,
    .run ⟨(some 94), (some (91, true)), .e (.call 30 [(.t 93)])⟩,
    .run ⟨(some 95), (some (91, true)), .f (.bin .neq (.t 92) (.t 94))⟩,
    .run ⟨(some 96), (some (88, false)), .f (.pick (.t 91) (.t 95) (.c (.bool false)))⟩,
    .run ⟨(some 97), none, .f (.pick (.t 88) (.c (.bool true)) (.t 96))⟩])
   (.ite (.t 97)
   (.seq (.reg [] [.run ⟨(some 4), none, .f (.mv (.c (.bool false)))⟩])
   .ret)
   .skip))
def l_l02_DiskRoom_1 : Cd := (.seq (.seq (.reg [] [.run ⟨(some 28), none, .f (.mv (.t 8))⟩,
    .run ⟨(some 29), none, .f (.mv (.t 1))⟩,
    .run ⟨(some 30), none, .f (.len .sl (.t 29))⟩,
    .run ⟨(some 31), none, .f (.bin .lss (.t 28) (.t 30))⟩,
    .run ⟨(some 32), none, .f (.mv (.t 31))⟩,
    .run ⟨(some 33), (some (32, true)), .f (.mv (.t 8))⟩,
    .run ⟨(some 34), (some (32, true)), .f (.bin .lss (.t 33) (.c (.int .i64 100)))⟩,
    .run ⟨(some 35), none, .f (.pick (.t 32) (.t 34) (.c (.bool false)))⟩])
   (.ite (.t 35)
   .skip
   (.exit 0)))
   (.seq (.blk 1 (.seq (.reg [] [.run ⟨(some 38), none, .f (.mv (.t 5))⟩,
    .run ⟨(some 39), none, .f (.mv (.t 7))⟩,
    .run ⟨(some 40), none, .f (.mv (.t 1))⟩,
    .run ⟨(some 41), none, .f (.mv (.t 8))⟩,
    .run ⟨(some 42), none, .f (.indexAddr 6 (.t 40) (.t 41))⟩,
    .run ⟨(some 43), none, .f (.load true 6 (.t 42))⟩,
    .run ⟨(some 44), none, .e (.call 27 [(.t 38), (.t 39), (.t 43)])⟩])
   (.seq (.reg [] [.run ⟨(some 45), none, .f (.mv (.t 5))⟩,
    .run ⟨(some 46), none, .e (.call 28 [(.t 45)])⟩,
    .run ⟨(some 9), none, .f (.mv (.t 46))⟩])
   (.seq (.reg [] [.run ⟨(some 10), none, .f (.mv (.c (.int .i64 0)))⟩])
   (.seq (.seq (.reg [] [.run ⟨(some 11), none, .f (.mv (.c (.int .i64 0)))⟩])
   (.blk 2 (.loop l_l02_DiskRoom_0)))
   s_l02_DiskRoom_0)))))
   (.reg [] [.run ⟨(some 36), none, .f (.mv (.t 8))⟩,
    .run ⟨(some 37), none, .f (.bin .add (.t 36) (.c (.int .i64 1)))⟩,
    .run ⟨(some 8), none, .f (.mv (.t 37))⟩])))
def b_l02_DiskRoom : Cd := (.seq (.reg [] [.run ⟨(some 4), none, .f (.mv (.c (.bool false)))⟩])
   (.seq (.seq (.reg [] [.run ⟨(some 14), none, .e (.call 15 [])⟩,
    .run ⟨(some 15), none, .f (.un .not (.t 14))⟩])
   (.ite (.t 15)
   (.seq (.reg [] [.run ⟨(some 4), none, .f (.mv (.c (.bool false)))⟩])
   .ret)
   .skip))
   (.seq (.reg [] [.run ⟨(some 17), none, .f (.mv (.t 0))⟩,
    .run ⟨(some 18), none, .f (.conv (.int .i64) (.t 17))⟩,
    .run ⟨(some 19), none, .e (.call 18 [(.t 18)])⟩,
    .run ⟨(some 16), none, .f (.mv (.t 19))⟩,
    .run ⟨(some 20), none, .f (.extract (.t 16) 0)⟩,
    .run ⟨(some 21), none, .f (.extract (.t 16) 1)⟩,
    .run ⟨(some 5), none, .f (.mv (.t 20))⟩,
    .run ⟨(some 6), none, .f (.mv (.t 21))⟩])
   (.seq (.seq (.reg [] [.run ⟨(some 22), none, .f (.mv (.t 6))⟩,
    .run ⟨(some 23), none, .f (.bin .neq (.t 22) (.c (.int .i64 0)))⟩])
   (.ite (.t 23)
   (.seq (.reg [] [.run ⟨(some 4), none, .f (.mv (.c (.bool false)))⟩])
   .ret)
   .skip))
   (.seq (.reg [] [.run ⟨(some 24), none, .f (.mv (.t 0))⟩,
    .run ⟨(some 25), none, .f (.conv (.int .i64) (.t 24))⟩,
    .run ⟨(some 26), none, .f (.build [(.sl [] 0 3 .nil), (.int .i64 0), (.int .i64 0), (.bool false), (.int .i64 0)] [(1, 1, (.t 25))])⟩,
    .run ⟨(some 27), none, .e (.box (.t 26))⟩,
    .run ⟨(some 7), none, .f (.mv (.t 27))⟩])
   (.seq (.seq (.reg [] [.run ⟨(some 8), none, .f (.mv (.c (.int .i64 0)))⟩])
   (.blk 0 (.loop l_l02_DiskRoom_1)))
   (.seq (.reg [] [.run ⟨(some 4), none, .f (.mv (.c (.bool true)))⟩])
   .ret)))))))
theorem k_l02_DiskRoom : chkFn Try.prog n_l02_DiskRoom ⟨b_l02_DiskRoom, [.tmp 4], 98⟩ = true := by kernel_rfl
/-- fascine/fascinelaw02.do -/
abbrev n_l02_do : Nat := 27
def i_l02_do_0 : Cd := (.seq (.reg [] [.run ⟨(some 83), none, .f (.bin .eql (.t 14) (.c (.int .u8 5)))⟩,
    .run ⟨(some 82), none, .f (.mv (.t 83))⟩])
   (.ite (.t 82)
   (.seq (.reg [] [.run ⟨(some 85), none, .f (.mv (.t 0))⟩,
    .run ⟨(some 86), none, .f (.fieldAddr 1 (.t 5))⟩,
    .run ⟨(some 87), none, .f (.load false 1 (.t 86))⟩,
    .run ⟨(some 88), none, .e (.call 21 [(.t 85), (.t 87)])⟩,
    .run ⟨(some 84), none, .f (.mv (.t 88))⟩,
    .run ⟨(some 89), none, .f (.extract (.t 84) 0)⟩,
    .run ⟨(some 90), none, .f (.extract (.t 84) 1)⟩,
    .run ⟨(some 7), none, .f (.mv (.t 89))⟩,
    .run ⟨(some 8), none, .f (.mv (.t 90))⟩])
   (.seq (.reg [] [.run ⟨(some 92), none, .f (.mv (.t 1))⟩,
    .run ⟨(some 93), none, .f (.fieldAddr 1 (.t 5))⟩,
    .run ⟨(some 94), none, .f (.load false 1 (.t 93))⟩,
    .run ⟨(some 95), none, .e (.call 55 [(.t 92), (.t 94)])⟩,
    .run ⟨(some 91), none, .f (.mv (.t 95))⟩,
    .run ⟨(some 96), none, .f (.extract (.t 91) 0)⟩,
    .run ⟨(some 97), none, .f (.extract (.t 91) 1)⟩,
    .run ⟨(some 9), none, .f (.mv (.t 96))⟩,
    .run ⟨(some 10), none, .f (.mv (.t 97))⟩])
   (.seq (.reg [] [.run ⟨(some 98), none, .f (.mv (.t 7))⟩,
    .run ⟨(some 99), none, .f (.conv .bytesStr (.t 98))⟩,
    .run ⟨(some 100), none, .f (.mv (.t 9))⟩,
    .run ⟨(some 101), none, .f (.conv .bytesStr (.t 100))⟩,
    .run ⟨(some 102), none, .f (.bin .eql (.t 99) (.t 101))⟩,
    .run ⟨(some 103), none, .f (.mv (.t 102))⟩,
    .run ⟨(some 104), (some (103, true)), .f (.mv (.t 8))⟩,
    .run ⟨(some 105), (some (103, true)), .f (.mv (.t 10))⟩,
    .run ⟨(some 106), (some (103, true)), .f (.bin .eql (.t 104) (.t 105))⟩,
    .run ⟨(some 107), none, .f (.pick (.t 103) (.t 106) (.c (.bool false)))⟩,
    .run ⟨(some 6), none, .f (.mv (.t 107))⟩])
   .ret)))
   (.seq (.reg [] [.run ⟨(some 109), none, .f (.bin .eql (.t 14) (.c (.int .u8 6)))⟩,
    .run ⟨(some 108), none, .f (.mv (.t 109))⟩])
   (.ite (.t 108)
   (.seq (.reg [] [.run ⟨(some 110), none, .f (.mv (.t 0))⟩,
    .run ⟨(some 111), none, .f (.fieldAddr 4 (.t 5))⟩,
    .run ⟨(some 112), none, .f (.load false 1 (.t 111))⟩,
    .run ⟨(some 113), none, .e (.call 24 [(.t 110), (.t 112)])⟩,
    .run ⟨(some 11), none, .f (.mv (.t 113))⟩])
   (.seq (.seq (.reg [] [.run ⟨(some 114), none, .f (.fieldAddr 4 (.t 5))⟩,
    .run ⟨(some 115), none, .f (.load false 1 (.t 114))⟩,
    .run ⟨(some 116), none, .f (.bin .lss (.t 115) (.c (.int .i64 0)))⟩])
   (.ite (.t 116)
   (.seq (.reg [] [.run ⟨(some 117), none, .f (.mv (.t 11))⟩,
    .run ⟨(some 118), none, .f (.bin .eql (.t 117) (.c (.int .i64 1)))⟩,
    .run ⟨(some 6), none, .f (.mv (.t 118))⟩])
   .ret)
   .skip))
   (.seq (.reg [] [.run ⟨(some 119), none, .f (.mv (.t 1))⟩,
    .run ⟨(some 120), none, .f (.fieldAddr 4 (.t 5))⟩,
    .run ⟨(some 121), none, .f (.load false 1 (.t 120))⟩,
    .run ⟨(some 122), none, .f (.nilCheck (.t 119))⟩,
    .run ⟨(some 123), none, .f (.fieldAddr 2 (.t 122))⟩,
    .run ⟨none, none, .e (.store 1 (.t 123) (.t 121))⟩])
   (.seq (.reg [] [.run ⟨(some 124), none, .f (.mv (.t 11))⟩,
    .run ⟨(some 125), none, .f (.bin .eql (.t 124) (.c (.int .i64 0)))⟩,
    .run ⟨(some 6), none, .f (.mv (.t 125))⟩])
   .ret))))
   .skip))))
def i_l02_do_1 : Cd := (.seq (.reg [] [.run ⟨(some 31), none, .f (.bin .eql (.t 14) (.c (.int .u8 1)))⟩,
    .run ⟨(some 30), none, .f (.mv (.t 31))⟩])
   (.ite (.t 30)
   (.seq (.reg [0, 1, 2, 3, 4, 6, 7, 8, 9, 10, 5, 8, 10, 11, 12, 13] [.run ⟨(some 32), none, .f (.mv (.t 0))⟩,
    .run ⟨(some 33), none, .f (.fieldAddr 1 (.t 5))⟩,
    .run ⟨(some 34), none, .f (.load false 1 (.t 33))⟩,
    .run ⟨(some 35), none, .f (.fieldAddr 3 (.t 5))⟩,
    .run ⟨(some 36), none, .f (.load false 1 (.t 35))⟩,
    .run ⟨(some 38), none, .f (.mv (.t 1))⟩,
    .run ⟨(some 39), none, .f (.fieldAddr 1 (.t 5))⟩,
    .run ⟨(some 40), none, .f (.load false 1 (.t 39))⟩,
    .run ⟨(some 41), none, .f (.fieldAddr 3 (.t 5))⟩,
    .run ⟨(some 42), none, .f (.load false 1 (.t 41))⟩,
    .run ⟨(some 37), none, .e (.call 25 [(.t 32), (.t 34), (.t 36)])⟩,
    .chk 40 none (.load false 1 (.t 39)),
    .chk 42 none (.load false 1 (.t 41)),
    .run ⟨(some 43), none, .e (.call 51 [(.t 38), (.t 40), (.t 42), (.c (.bool true))])⟩,
    .run ⟨(some 44), none, .f (.bin .eql (.t 37) (.t 43))⟩,
    .run ⟨(some 6), none, .f (.mv (.t 44))⟩])
   .ret)
   (.seq (.reg [] [.run ⟨(some 46), none, .f (.bin .eql (.t 14) (.c (.int .u8 2)))⟩,
    .run ⟨(some 45), none, .f (.mv (.t 46))⟩])
   (.ite (.t 45)
   (.seq (.reg [0, 1, 2, 4, 5, 6, 3, 6, 7, 8, 9] [.run ⟨(some 47), none, .f (.mv (.t 0))⟩,
    .run ⟨(some 48), none, .f (.fieldAddr 1 (.t 5))⟩,
    .run ⟨(some 49), none, .f (.load false 1 (.t 48))⟩,
    .run ⟨(some 51), none, .f (.mv (.t 1))⟩,
    .run ⟨(some 52), none, .f (.fieldAddr 1 (.t 5))⟩,
    .run ⟨(some 53), none, .f (.load false 1 (.t 52))⟩,
    .run ⟨(some 50), none, .e (.call 20 [(.t 47), (.t 49)])⟩,
    .chk 53 none (.load false 1 (.t 52)),
    .run ⟨(some 54), none, .e (.call 52 [(.t 51), (.t 53)])⟩,
    .run ⟨(some 55), none, .f (.bin .eql (.t 50) (.t 54))⟩,
    .run ⟨(some 6), none, .f (.mv (.t 55))⟩])
   .ret)
   (.seq (.reg [] [.run ⟨(some 57), none, .f (.bin .eql (.t 14) (.c (.int .u8 3)))⟩,
    .run ⟨(some 56), none, .f (.mv (.t 57))⟩])
   (.ite (.t 56)
   (.seq (.reg [0, 1, 2, 4, 5, 6, 3, 6, 7, 8, 9] [.run ⟨(some 58), none, .f (.mv (.t 0))⟩,
    .run ⟨(some 59), none, .f (.fieldAddr 1 (.t 5))⟩,
    .run ⟨(some 60), none, .f (.load false 1 (.t 59))⟩,
    .run ⟨(some 62), none, .f (.mv (.t 1))⟩,
    .run ⟨(some 63), none, .f (.fieldAddr 1 (.t 5))⟩,
    .run ⟨(some 64), none, .f (.load false 1 (.t 63))⟩,
    .run ⟨(some 61), none, .e (.call 32 [(.t 58), (.t 60)])⟩,
    .chk 64 none (.load false 1 (.t 63)),
    .run ⟨(some 65), none, .e (.call 53 [(.t 62), (.t 64)])⟩,
    .run ⟨(some 66), none, .f (.bin .eql (.t 61) (.t 65))⟩,
    .run ⟨(some 6), none, .f (.mv (.t 66))⟩])
   .ret)
   (.seq (.reg [] [.run ⟨(some 68), none, .f (.bin .eql (.t 14) (.c (.int .u8 4)))⟩,
    .run ⟨(some 67), none, .f (.mv (.t 68))⟩])
   (.ite (.t 67)
   (.seq (.reg [0, 1, 2, 3, 4, 6, 7, 8, 9, 10, 5, 8, 10, 11, 12, 13] [.run ⟨(some 69), none, .f (.mv (.t 0))⟩,
    .run ⟨(some 70), none, .f (.fieldAddr 1 (.t 5))⟩,
    .run ⟨(some 71), none, .f (.load false 1 (.t 70))⟩,
    .run ⟨(some 72), none, .f (.fieldAddr 2 (.t 5))⟩,
    .run ⟨(some 73), none, .f (.load false 1 (.t 72))⟩,
    .run ⟨(some 75), none, .f (.mv (.t 1))⟩,
    .run ⟨(some 76), none, .f (.fieldAddr 1 (.t 5))⟩,
    .run ⟨(some 77), none, .f (.load false 1 (.t 76))⟩,
    .run ⟨(some 78), none, .f (.fieldAddr 2 (.t 5))⟩,
    .run ⟨(some 79), none, .f (.load false 1 (.t 78))⟩,
    .run ⟨(some 74), none, .e (.call 26 [(.t 69), (.t 71), (.t 73)])⟩,
    .chk 77 none (.load false 1 (.t 76)),
    .chk 79 none (.load false 1 (.t 78)),
    .run ⟨(some 80), none, .e (.call 54 [(.t 75), (.t 77), (.t 79)])⟩,
    .run ⟨(some 81), none, .f (.bin .eql (.t 74) (.t 80))⟩,
    .run ⟨(some 6), none, .f (.mv (.t 81))⟩])
   .ret)
   i_l02_do_0))))))))
def s_l02_do_0 : Cd := (.seq (.reg [] [.run ⟨(some 126), none, .f (.mv (.t 1))⟩,
    .run ⟨(some 127), none, .f (.fieldAddr 5 (.t 5))⟩,
    .run ⟨(some 128), none, .f (.load false 1 (.t 127))⟩,
    .run ⟨(some 129), none, .e (.call 56 [(.t 126), (.t 128)])⟩])
   (.seq (.reg [] [.run ⟨(some 130), none, .f (.mv (.t 0))⟩,
    .run ⟨(some 131), none, .f (.fieldAddr 5 (.t 5))⟩,
    .run ⟨(some 132), none, .f (.load false 1 (.t 131))⟩,
    .run ⟨(some 133), none, .e (.call 22 [(.t 130), (.t 132)])⟩,
    .run ⟨(some 134), none, .f (.bin .eql (.t 133) (.c (.int .i64 0)))⟩,
    .run ⟨(some 6), none, .f (.mv (.t 134))⟩])
   .ret))
def b_l02_do : Cd := (.seq (.reg [] [.run ⟨(some 5), none, .e (.box (.t 2))⟩,
    .run ⟨(some 6), none, .f (.mv (.c (.bool false)))⟩])
   (.seq (.seq (.reg [] [.run ⟨(some 12), none, .f (.fieldAddr 0 (.t 5))⟩,
    .run ⟨(some 13), none, .f (.load false 1 (.t 12))⟩,
    .run ⟨(some 14), none, .f (.bin .rem (.t 13) (.c (.int .u8 8)))⟩])
   (.blk 0 (.seq (.reg [] [.run ⟨(some 16), none, .f (.bin .eql (.t 14) (.c (.int .u8 0)))⟩,
    .run ⟨(some 15), none, .f (.mv (.t 16))⟩])
   (.ite (.t 15)
   (.seq (.reg [0, 1, 2, 3, 4, 6, 7, 8, 9, 10, 5, 8, 10, 11, 12, 13] [.run ⟨(some 17), none, .f (.mv (.t 0))⟩,
    .run ⟨(some 18), none, .f (.fieldAddr 1 (.t 5))⟩,
    .run ⟨(some 19), none, .f (.load false 1 (.t 18))⟩,
    .run ⟨(some 20), none, .f (.fieldAddr 3 (.t 5))⟩,
    .run ⟨(some 21), none, .f (.load false 1 (.t 20))⟩,
    .run ⟨(some 23), none, .f (.mv (.t 1))⟩,
    .run ⟨(some 24), none, .f (.fieldAddr 1 (.t 5))⟩,
    .run ⟨(some 25), none, .f (.load false 1 (.t 24))⟩,
    .run ⟨(some 26), none, .f (.fieldAddr 3 (.t 5))⟩,
    .run ⟨(some 27), none, .f (.load false 1 (.t 26))⟩,
    .run ⟨(some 22), none, .e (.call 19 [(.t 17), (.t 19), (.t 21)])⟩,
    .chk 25 none (.load false 1 (.t 24)),
    .chk 27 none (.load false 1 (.t 26)),
    .run ⟨(some 28), none, .e (.call 51 [(.t 23), (.t 25), (.t 27), (.c (.bool false))])⟩,
    .run ⟨(some 29), none, .f (.bin .eql (.t 22) (.t 28))⟩,
    .run ⟨(some 6), none, .f (.mv (.t 29))⟩])
   .ret)
   i_l02_do_1))))
   s_l02_do_0))
theorem k_l02_do : chkFn Try.prog n_l02_do ⟨b_l02_do, [.tmp 6], 135⟩ = true := by kernel_rfl
/-- fascine/fascinelaw02.same -/
abbrev n_l02_same : Nat := 31
def r_l02_same_0 : Cd := (.seq (.reg [] [.run ⟨(some 81), none, .f (.mv (.t 0))⟩,
    .run ⟨(some 82), none, .f (.mv (.t 5))⟩,
    .run ⟨(some 83), none, .f (.mv (.t 6))⟩,
    .run ⟨(some 84), none, .f (.indexAddr 1 (.t 82) (.t 83))⟩,
    .run ⟨(some 85), none, .f (.load false 1 (.t 84))⟩,
    .run ⟨(some 86), none, .e (.call 21 [(.t 81), (.t 85)])⟩,
    .run ⟨(some 80), none, .f (.mv (.t 86))⟩,
    .run ⟨(some 87), none, .f (.extract (.t 80) 0)⟩,
    .run ⟨(some 88), none, .f (.extract (.t 80) 1)⟩,
    .run ⟨(some 7), none, .f (.mv (.t 87))⟩,
    .run ⟨(some 8), none, .f (.mv (.t 88))⟩])
   (.seq (.reg [0, 1, 2, 3, 4, 5, 6, 7, 8, 9, 10, 11, 12, 13, 14, 15, 16, 17, 18, 19, 20, 21, 22, 23, 24, 25, 26, 27, 28, 29, 30, 31, 32] [.run ⟨(some 89), none, .f (.mv (.t 1))⟩,
    .run ⟨(some 90), none, .f (.nilCheck (.t 89))⟩,
    .run ⟨(some 91), none, .f (.fieldAddr 3 (.t 90))⟩,
    .run ⟨(some 92), none, .f (.load false 1 (.t 91))⟩,
    .run ⟨(some 93), none, .f (.mv (.t 92))⟩,
    .run ⟨(some 94), (some (93, true)), .f (.mv (.t 8))⟩,
    .run ⟨(some 95), (some (93, true)), .f (.bin .neq (.t 94) (.c (.int .i64 10)))⟩,
    .run ⟨(some 96), none, .f (.pick (.t 93) (.t 95) (.c (.bool false)))⟩,
    .run ⟨(some 97), none, .f (.mv (.t 96))⟩,
    .run ⟨(some 98), (some (97, false)), .f (.mv (.t 1))⟩,
    .run ⟨(some 99), (some (97, false)), .f (.nilCheck (.t 98))⟩,
    .run ⟨(some 100), (some (97, false)), .f (.fieldAddr 3 (.t 99))⟩,
    .run ⟨(some 101), (some (97, false)), .f (.load false 1 (.t 100))⟩,
    .run ⟨(some 102), (some (97, false)), .f (.un .not (.t 101))⟩,
    .run ⟨(some 103), (some (97, false)), .f (.mv (.t 102))⟩,
    .run ⟨(some 104), (some (103, true)), .f (.mv (.t 8))⟩,
    .run ⟨(some 105), (some (103, true)), .f (.bin .neq (.t 104) (.c (.int .i64 0)))⟩,
    .run ⟨(some 106), (some (103, true)), .f (.mv (.t 105))⟩,
    .run ⟨(some 107), (some (106, false)), .f (.mv (.t 7))⟩,
    .run ⟨(some 108), (some (106, false)), .f (.conv .bytesStr (.t 107))⟩,
    .run ⟨(some 109), (some (106, false)), .f (.mv (.t 1))⟩,
    .run ⟨(some 110), (some (106, false)), .f (.nilCheck (.t 109))⟩,
    .run ⟨(some 111), (some (106, false)), .f (.fieldAddr 0 (.t 110))⟩,
    .run ⟨(some 112), (some (106, false)), .f (.load false 1 (.t 111))⟩,
    .run ⟨(some 113), (some (106, false)), .f (.mv (.t 6))⟩,
    .run ⟨(some 114), (some (106, false)), .f (.indexAddr 3 (.t 112) (.t 113))⟩,
    .run ⟨(some 115), (some (106, false)), .f (.fieldAddr 1 (.t 114))⟩,
    .run ⟨(some 116), (some (106, false)), .f (.load false 1 (.t 115))⟩,
    .run ⟨(some 117), (some (106, false)), .f (.conv .bytesStr (.t 116))⟩,
    .run ⟨(some 118), (some (106, false)), .f (.bin .neq (.t 108) (.t 117))⟩,
    .run ⟨(some 119), (some (103, true)), .f (.pick (.t 106) (.c (.bool true)) (.t 118))⟩,
    .run ⟨(some 120), (some (97, false)), .f (.pick (.t 103) (.t 119) (.c (.bool false)))⟩,
    .run ⟨(some 121), none, .f (.pick (.t 97) (.c (.bool true)) (.t 120))⟩])
   (.ite (.t 121)
   (.seq (.reg [] [.run ⟨(some 4), none, .f (.mv (.c (.bool false)))⟩])
   .ret)
   .skip)))
def k_l02_same_0 : Cd := (.seq (.seq (.reg [0, 1, 2, 3, 4, 5, 6, 7, 8, 9, 10, 11, 12, 13, 14, 15, 16, 17, 18, 20, 21, 22, 23, 24, 25, 26, 27, 19, 23, 27, 28, 29] [.run ⟨(some 50), none, .f (.mv (.t 5))⟩,
    .run ⟨(some 51), none, .f (.mv (.t 6))⟩,
    .run ⟨(some 52), none, .f (.indexAddr 1 (.t 50) (.t 51))⟩,
    .run ⟨(some 53), none, .f (.load false 1 (.t 52))⟩,
    .run ⟨(some 54), none, .f (.mv (.t 1))⟩,
    .run ⟨(some 55), none, .f (.nilCheck (.t 54))⟩,
    .run ⟨(some 56), none, .f (.fieldAddr 0 (.t 55))⟩,
    .run ⟨(some 57), none, .f (.load false 1 (.t 56))⟩,
    .run ⟨(some 58), none, .f (.mv (.t 6))⟩,
    .run ⟨(some 59), none, .f (.indexAddr 3 (.t 57) (.t 58))⟩,
    .run ⟨(some 60), none, .f (.fieldAddr 0 (.t 59))⟩,
    .run ⟨(some 61), none, .f (.load false 1 (.t 60))⟩,
    .run ⟨(some 62), none, .f (.bin .neq (.t 53) (.t 61))⟩,
    .run ⟨(some 63), none, .f (.mv (.t 62))⟩,
    .run ⟨(some 64), (some (63, false)), .f (.mv (.t 0))⟩,
    .run ⟨(some 65), (some (63, false)), .f (.mv (.t 5))⟩,
    .run ⟨(some 66), (some (63, false)), .f (.mv (.t 6))⟩,
    .run ⟨(some 67), (some (63, false)), .f (.indexAddr 1 (.t 65) (.t 66))⟩,
    .run ⟨(some 68), (some (63, false)), .f (.load false 1 (.t 67))⟩,
    .run ⟨(some 70), (some (63, false)), .f (.mv (.t 1))⟩,
    .run ⟨(some 71), (some (63, false)), .f (.nilCheck (.t 70))⟩,
    .run ⟨(some 72), (some (63, false)), .f (.fieldAddr 0 (.t 71))⟩,
    .run ⟨(some 73), (some (63, false)), .f (.load false 1 (.t 72))⟩,
    .run ⟨(some 74), (some (63, false)), .f (.mv (.t 6))⟩,
    .run ⟨(some 75), (some (63, false)), .f (.indexAddr 3 (.t 73) (.t 74))⟩,
    .run ⟨(some 76), (some (63, false)), .f (.fieldAddr 2 (.t 75))⟩,
    .run ⟨(some 77), (some (63, false)), .f (.load false 1 (.t 76))⟩,
    .run ⟨(some 69), (some (63, false)), .e (.call 23 [(.t 64), (.t 68)])⟩,
    .chk 73 (some (63, false)) (.load false 1 (.t 72)),
    .chk 77 (some (63, false)) (.load false 1 (.t 76)),
    .run ⟨(some 78), (some (63, false)), .f (.bin .neq (.t 69) (.t 77))⟩,
    .run ⟨(some 79), none, .f (.pick (.t 63) (.c (.bool true)) (.t 78))⟩])
   (.ite (.t 79)
   (.seq (.reg [] [.run ⟨(some 4), none, .f (.mv (.c (.bool false)))⟩])
   .ret)
   .skip))
   r_l02_same_0)
def l_l02_same_0 : Cd := (.seq (.seq (.reg [] [.run ⟨(some 44), none, .f (.mv (.t 6))⟩,
    .run ⟨(some 45), none, .f (.mv (.t 5))⟩,
    .run ⟨(some 46), none, .f (.len .sl (.t 45))⟩,
    .run ⟨(some 47), none, .f (.bin .lss (.t 44) (.t 46))⟩])
   (.ite (.t 47)
   .skip
   (.exit 0)))
   (.seq (.blk 1 k_l02_same_0)
   (.reg [] [.run ⟨(some 48), none, .f (.mv (.t 6))⟩,
    .run ⟨(some 49), none, .f (.bin .add (.t 48) (.c (.int .i64 1)))⟩,
    .run ⟨(some 6), none, .f (.mv (.t 49))⟩])))
def r_l02_same_1 : Cd := (.seq (.seq (.reg [] [.run ⟨(some 6), none, .f (.mv (.c (.int .i64 0)))⟩])
   (.blk 0 (.loop l_l02_same_0)))
   (.seq (.reg [] [.run ⟨(some 122), none, .f (.mv (.t 0))⟩,
    .run ⟨(some 123), none, .e (.call 23 [(.t 122), (.c (.str (mkS [110, 111, 45, 115, 117, 99, 104, 45, 102, 105, 108, 101])))])⟩,
    .run ⟨(some 124), none, .f (.bin .eql (.t 123) (.c (.int .i64 0)))⟩,
    .run ⟨(some 4), none, .f (.mv (.t 124))⟩])
   .ret))
def b_l02_same : Cd := (.seq (.reg [] [.run ⟨(some 4), none, .f (.mv (.c (.bool false)))⟩])
   (.seq (.reg [] [.run ⟨(some 9), none, .f (.mv (.t 0))⟩,
    .run ⟨(some 10), none, .e (.call 28 [(.t 9)])⟩,
    .run ⟨(some 5), none, .f (.mv (.t 10))⟩])
   (.seq (.seq (.reg [0, 1, 2, 3, 4, 5, 6, 7, 8, 9, 11, 10, 12, 13, 14, 15, 16, 18, 19, 20, 21, 17, 21, 22, 23, 24, 25, 27, 28, 29, 30, 26, 30, 31, 32] [.run ⟨(some 11), none, .f (.mv (.t 5))⟩,
    .run ⟨(some 12), none, .f (.len .sl (.t 11))⟩,
    .run ⟨(some 13), none, .f (.mv (.t 1))⟩,
    .run ⟨(some 14), none, .f (.nilCheck (.t 13))⟩,
    .run ⟨(some 15), none, .f (.fieldAddr 0 (.t 14))⟩,
    .run ⟨(some 16), none, .f (.load false 1 (.t 15))⟩,
    .run ⟨(some 17), none, .f (.len .sl (.t 16))⟩,
    .run ⟨(some 18), none, .f (.bin .neq (.t 12) (.t 17))⟩,
    .run ⟨(some 19), none, .f (.mv (.t 18))⟩,
    .run ⟨(some 20), (some (19, false)), .f (.mv (.t 0))⟩,
    .run ⟨(some 22), (some (19, false)), .f (.mv (.t 1))⟩,
    .run ⟨(some 21), (some (19, false)), .e (.call 30 [(.t 20)])⟩,
    .run ⟨(some 23), (some (19, false)), .e (.call 59 [(.t 22)])⟩,
    .run ⟨(some 24), (some (19, false)), .f (.bin .neq (.t 21) (.t 23))⟩,
    .run ⟨(some 25), none, .f (.pick (.t 19) (.c (.bool true)) (.t 24))⟩,
    .run ⟨(some 26), none, .f (.mv (.t 25))⟩,
    .run ⟨(some 27), (some (26, false)), .f (.mv (.t 0))⟩,
    .run ⟨(some 29), (some (26, false)), .f (.mv (.t 1))⟩,
    .run ⟨(some 30), (some (26, false)), .f (.nilCheck (.t 29))⟩,
    .run ⟨(some 31), (some (26, false)), .f (.fieldAddr 4 (.t 30))⟩,
    .run ⟨(some 32), (some (26, false)), .f (.load false 1 (.t 31))⟩,
    .run ⟨(some 28), (some (26, false)), .e (.call 33 [(.t 27)])⟩,
    .chk 32 (some (26, false)) (.load false 1 (.t 31)),
    .run ⟨(some 33), (some (26, false)), .f (.bin .neq (.t 28) (.t 32))⟩,
    .run ⟨(some 34), none, .f (.pick (.t 26) (.c (.bool true)) (.t 33))⟩,
    .run ⟨(some 35), none, .f (.mv (.t 34))⟩,
    .run ⟨(some 36), (some (35, false)), .f (.mv (.t 0))⟩,
    .run ⟨(some 38), (some (35, false)), .f (.mv (.t 1))⟩,
    .run ⟨(some 39), (some (35, false)), .f (.nilCheck (.t 38))⟩,
    .run ⟨(some 40), (some (35, false)), .f (.fieldAddr 3 (.t 39))⟩,
    .run ⟨(some 41), (some (35, false)), .f (.load false 1 (.t 40))⟩,
    .run ⟨(some 37), (some (35, false)), .e (.call 29 [(.t 36)])⟩,
    .chk 41 (some (35, false)) (.load false 1 (.t 40)),
    .run ⟨(some 42), (some (35, false)), .f (.eq false .bool (.t 37) (.t 41))⟩,
    .run ⟨(some 43), none, .f (.pick (.t 35) (.c (.bool true)) (.t 42))⟩])
   (.ite (.t 43)
   (.seq (.reg [] [.run ⟨(some 4), none, .f (.mv (.c (.bool false)))⟩])
   .ret)
   .skip))
   r_l02_same_1)))
theorem k_l02_same : chkFn Try.prog n_l02_same ⟨b_l02_same, [.tmp 4], 125⟩ = true := by kernel_rfl
/-- (*fascine/fascineref02.Disk).At -/
abbrev n_r02_Disk_At : Nat := 67
def l_r02_Disk_At_0 : Cd := (.seq (.seq (.reg [] [.run ⟨(some 6), none, .f (.mv (.t 5))⟩,
    .run ⟨(some 7), none, .f (.mv (.t 0))⟩,
    .run ⟨(some 8), none, .f (.nilCheck (.t 7))⟩,
    .run ⟨(some 9), none, .f (.fieldAddr 0 (.t 8))⟩,
    .run ⟨(some 10), none, .f (.load false 1 (.t 9))⟩,
    .run ⟨(some 11), none, .f (.len .sl (.t 10))⟩,
    .run ⟨(some 12), none, .f (.bin .lss (.t 6) (.t 11))⟩])
   (.ite (.t 12)
   .skip
   (.exit 0)))
   (.seq (.blk 1 (.seq (.reg [] [.run ⟨(some 15), none, .f (.mv (.t 0))⟩,
    .run ⟨(some 16), none, .f (.nilCheck (.t 15))⟩,
    .run ⟨(some 17), none, .f (.fieldAddr 0 (.t 16))⟩,
    .run ⟨(some 18), none, .f (.load false 1 (.t 17))⟩,
    .run ⟨(some 19), none, .f (.mv (.t 5))⟩,
    .run ⟨(some 20), none, .f (.indexAddr 3 (.t 18) (.t 19))⟩,
    .run ⟨(some 21), none, .f (.fieldAddr 0 (.t 20))⟩,
    .run ⟨(some 22), none, .f (.load false 1 (.t 21))⟩,
    .run ⟨(some 23), none, .f (.mv (.t 1))⟩,
    .run ⟨(some 24), none, .f (.bin .eql (.t 22) (.t 23))⟩])
   (.ite (.t 24)
   (.seq (.reg [] [.run ⟨(some 25), none, .f (.mv (.t 5))⟩,
    .run ⟨(some 4), none, .f (.mv (.t 25))⟩])
   .ret)
   .skip)))
   (.reg [] [.run ⟨(some 13), none, .f (.mv (.t 5))⟩,
    .run ⟨(some 14), none, .f (.bin .add (.t 13) (.c (.int .i64 1)))⟩,
    .run ⟨(some 5), none, .f (.mv (.t 14))⟩])))
def b_r02_Disk_At : Cd := (.seq (.reg [] [.run ⟨(some 4), none, .f (.mv (.c (.int .i64 0)))⟩])
   (.seq (.seq (.reg [] [.run ⟨(some 5), none, .f (.mv (.c (.int .i64 0)))⟩])
   (.blk 0 (.loop l_r02_Disk_At_0)))
   (.seq (.reg [] [.run ⟨(some 4), none, .f (.mv (.c (.int .i64 (-1))))⟩])
   .ret)))
theorem k_r02_Disk_At : chkFn Try.prog n_r02_Disk_At ⟨b_r02_Disk_At, [.tmp 4], 26⟩ = true := by kernel_rfl
/-- (*fascine/fascineref02.Disk).Grow -/
abbrev n_r02_Disk_Grow : Nat := 51
def l_r02_Disk_Grow_0 : Cd := (.seq (.seq (.reg [] [.run ⟨(some 43), none, .f (.mv (.t 12))⟩,
    .run ⟨(some 44), none, .f (.mv (.t 0))⟩,
    .run ⟨(some 45), none, .f (.nilCheck (.t 44))⟩,
    .run ⟨(some 46), none, .f (.fieldAddr 0 (.t 45))⟩,
    .run ⟨(some 47), none, .f (.load false 1 (.t 46))⟩,
    .run ⟨(some 48), none, .f (.len .sl (.t 47))⟩,
    .run ⟨(some 49), none, .f (.bin .lss (.t 43) (.t 48))⟩,
    .run ⟨(some 50), none, .f (.mv (.t 49))⟩,
    .run ⟨(some 51), (some (50, true)), .f (.mv (.t 0))⟩,
    .run ⟨(some 52), (some (50, true)), .f (.nilCheck (.t 51))⟩,
    .run ⟨(some 53), (some (50, true)), .f (.fieldAddr 0 (.t 52))⟩,
    .run ⟨(some 54), (some (50, true)), .f (.load false 1 (.t 53))⟩,
    .run ⟨(some 55), (some (50, true)), .f (.mv (.t 12))⟩,
    .run ⟨(some 56), (some (50, true)), .f (.indexAddr 3 (.t 54) (.t 55))⟩,
    .run ⟨(some 57), (some (50, true)), .f (.fieldAddr 0 (.t 56))⟩,
    .run ⟨(some 58), (some (50, true)), .f (.load false 1 (.t 57))⟩,
    .run ⟨(some 59), (some (50, true)), .f (.mv (.t 1))⟩,
    .run ⟨(some 60), (some (50, true)), .f (.bin .lss (.t 58) (.t 59))⟩,
    .run ⟨(some 61), none, .f (.pick (.t 50) (.t 60) (.c (.bool false)))⟩])
   (.ite (.t 61)
   .skip
   (.exit 0)))
   (.blk 1 (.reg [] [.run ⟨(some 62), none, .f (.mv (.t 12))⟩,
    .run ⟨(some 63), none, .f (.bin .add (.t 62) (.c (.int .i64 1)))⟩,
    .run ⟨(some 12), none, .f (.mv (.t 63))⟩])))
def s_r02_Disk_Grow_0 : Cd := (.seq (.reg [] [.run ⟨(some 64), none, .f (.mv (.t 11))⟩,
    .run ⟨(some 65), none, .f (.mv (.t 0))⟩,
    .run ⟨(some 66), none, .f (.nilCheck (.t 65))⟩,
    .run ⟨(some 67), none, .f (.fieldAddr 0 (.t 66))⟩,
    .run ⟨(some 68), none, .f (.load false 1 (.t 67))⟩,
    .run ⟨(some 69), none, .f (.mv (.t 12))⟩,
    .run ⟨(some 70), none, .f (.slice 3 (.t 68) none (some (.t 69)) none)⟩,
    .run ⟨(some 71), none, .e (.append 3 48 true (.t 64) (.t 70))⟩,
    .run ⟨(some 11), none, .f (.mv (.t 71))⟩])
   (.seq (.reg [] [.run ⟨(some 72), none, .f (.mv (.t 11))⟩,
    .run ⟨(some 73), none, .f (.mv (.t 1))⟩,
    .run ⟨(some 74), none, .f (.build [(.str (mkS [])), (.sl [] 0 1 .nil), (.int .i64 0)] [(0, 1, (.t 73))])⟩,
    .run ⟨(some 75), none, .e (.buildSlice 1 3 0 [(.str (mkS [])), (.sl [] 0 1 .nil), (.int .i64 0)] [(0, 3, (.t 74))])⟩,
    .run ⟨(some 76), none, .e (.append 3 48 true (.t 72) (.t 75))⟩,
    .run ⟨(some 11), none, .f (.mv (.t 76))⟩])
   (.seq (.reg [] [.run ⟨(some 77), none, .f (.mv (.t 11))⟩,
    .run ⟨(some 78), none, .f (.mv (.t 0))⟩,
    .run ⟨(some 79), none, .f (.nilCheck (.t 78))⟩,
    .run ⟨(some 80), none, .f (.fieldAddr 0 (.t 79))⟩,
    .run ⟨(some 81), none, .f (.load false 1 (.t 80))⟩,
    .run ⟨(some 82), none, .f (.mv (.t 12))⟩,
    .run ⟨(some 83), none, .f (.slice 3 (.t 81) (some (.t 82)) none none)⟩,
    .run ⟨(some 84), none, .e (.append 3 48 true (.t 77) (.t 83))⟩,
    .run ⟨(some 11), none, .f (.mv (.t 84))⟩])
   (.seq (.reg [] [.run ⟨(some 85), none, .f (.mv (.t 0))⟩,
    .run ⟨(some 86), none, .f (.mv (.t 11))⟩,
    .run ⟨(some 87), none, .f (.nilCheck (.t 85))⟩,
    .run ⟨(some 88), none, .f (.fieldAddr 0 (.t 87))⟩,
    .run ⟨none, none, .e (.store 1 (.t 88) (.t 86))⟩])
   (.reg [] [.run ⟨(some 89), none, .f (.mv (.t 12))⟩,
    .run ⟨(some 9), none, .f (.mv (.t 89))⟩])))))
def r_r02_Disk_Grow_0 : Cd := (.seq (.reg [] [.run ⟨(some 13), none, .f (.mv (.c (.sl [] 0 1 .nil)))⟩])
   (.seq (.reg [] [.run ⟨(some 90), none, .f (.mv (.t 13))⟩,
    .run ⟨(some 91), none, .f (.mv (.t 0))⟩,
    .run ⟨(some 92), none, .f (.nilCheck (.t 91))⟩,
    .run ⟨(some 93), none, .f (.fieldAddr 0 (.t 92))⟩,
    .run ⟨(some 94), none, .f (.load false 1 (.t 93))⟩,
    .run ⟨(some 95), none, .f (.mv (.t 9))⟩,
    .run ⟨(some 96), none, .f (.indexAddr 3 (.t 94) (.t 95))⟩,
    .run ⟨(some 97), none, .f (.fieldAddr 1 (.t 96))⟩,
    .run ⟨(some 98), none, .f (.load false 1 (.t 97))⟩,
    .run ⟨(some 99), none, .e (.append 1 1 false (.t 90) (.t 98))⟩,
    .run ⟨(some 13), none, .f (.mv (.t 99))⟩])
   (.seq (.reg [] [.run ⟨(some 100), none, .f (.mv (.t 13))⟩,
    .run ⟨(some 101), none, .f (.mv (.t 2))⟩,
    .run ⟨(some 102), none, .e (.append 1 1 false (.t 100) (.t 101))⟩,
    .run ⟨(some 13), none, .f (.mv (.t 102))⟩])
   (.seq (.reg [] [.run ⟨(some 103), none, .f (.mv (.t 0))⟩,
    .run ⟨(some 104), none, .f (.nilCheck (.t 103))⟩,
    .run ⟨(some 105), none, .f (.fieldAddr 0 (.t 104))⟩,
    .run ⟨(some 106), none, .f (.load false 1 (.t 105))⟩,
    .run ⟨(some 107), none, .f (.mv (.t 9))⟩,
    .run ⟨(some 108), none, .f (.mv (.t 13))⟩,
    .run ⟨(some 109), none, .f (.indexAddr 3 (.t 106) (.t 107))⟩,
    .run ⟨(some 110), none, .f (.fieldAddr 1 (.t 109))⟩,
    .run ⟨none, none, .e (.store 1 (.t 110) (.t 108))⟩])
   (.seq (.seq (.reg [] [.run ⟨(some 111), none, .f (.mv (.t 10))⟩])
   (.ite (.t 111)
   (.seq (.reg [] [.run ⟨(some 8), none, .f (.mv (.c (.int .i64 10)))⟩])
   .ret)
   .skip))
   (.seq (.reg [] [.run ⟨(some 8), none, .f (.mv (.c (.int .i64 0)))⟩])
   .ret))))))
def r_r02_Disk_Grow_1 : Cd := (.seq (.seq (.reg [0, 1, 2, 3, 4, 5, 6, 7, 5, 8, 9] [.run ⟨(some 29), none, .f (.mv (.t 2))⟩,
    .run ⟨(some 30), none, .f (.len .sl (.t 29))⟩,
    .run ⟨(some 31), none, .f (.mv (.t 0))⟩,
    .run ⟨(some 32), none, .f (.nilCheck (.t 31))⟩,
    .run ⟨(some 33), none, .f (.fieldAddr 1 (.t 32))⟩,
    .run ⟨(some 34), none, .f (.load false 1 (.t 33))⟩,
    .run ⟨(some 35), none, .f (.mv (.t 0))⟩,
    .run ⟨(some 36), none, .e (.call 59 [(.t 35)])⟩,
    .chk 34 none (.load false 1 (.t 33)),
    .run ⟨(some 37), none, .f (.bin .sub (.t 34) (.t 36))⟩,
    .run ⟨(some 38), none, .f (.bin .gtr (.t 30) (.t 37))⟩])
   (.ite (.t 38)
   (.seq (.reg [] [.run ⟨(some 8), none, .f (.mv (.c (.int .i64 11)))⟩])
   .ret)
   .skip))
   (.seq (.reg [] [.run ⟨(some 39), none, .f (.mv (.t 0))⟩,
    .run ⟨(some 40), none, .e (.call 68 [(.t 39)])⟩,
    .run ⟨(some 10), none, .f (.mv (.t 40))⟩])
   (.seq (.seq (.reg [] [.run ⟨(some 41), none, .f (.mv (.t 9))⟩,
    .run ⟨(some 42), none, .f (.bin .lss (.t 41) (.c (.int .i64 0)))⟩])
   (.ite (.t 42)
   (.seq (.reg [] [.run ⟨(some 11), none, .f (.mv (.c (.sl [] 0 3 .nil)))⟩])
   (.seq (.reg [] [.run ⟨(some 12), none, .f (.mv (.c (.int .i64 0)))⟩])
   (.seq (.blk 0 (.loop l_r02_Disk_Grow_0))
   s_r02_Disk_Grow_0)))
   .skip))
   r_r02_Disk_Grow_0)))
def r_r02_Disk_Grow_2 : Cd := (.seq (.reg [] [.run ⟨(some 21), none, .f (.mv (.t 0))⟩,
    .run ⟨(some 22), none, .f (.mv (.t 1))⟩,
    .run ⟨(some 23), none, .e (.call 67 [(.t 21), (.t 22)])⟩,
    .run ⟨(some 9), none, .f (.mv (.t 23))⟩])
   (.seq (.seq (.reg [] [.run ⟨(some 24), none, .f (.mv (.t 3))⟩,
    .run ⟨(some 25), none, .f (.mv (.t 24))⟩,
    .run ⟨(some 26), (some (25, true)), .f (.mv (.t 9))⟩,
    .run ⟨(some 27), (some (25, true)), .f (.bin .geq (.t 26) (.c (.int .i64 0)))⟩,
    .run ⟨(some 28), none, .f (.pick (.t 25) (.t 27) (.c (.bool false)))⟩])
   (.ite (.t 28)
   (.seq (.reg [] [.run ⟨(some 8), none, .f (.mv (.c (.int .i64 9)))⟩])
   .ret)
   .skip))
   r_r02_Disk_Grow_1))
def b_r02_Disk_Grow : Cd := (.seq (.reg [] [.run ⟨(some 8), none, .f (.mv (.c (.int .i64 0)))⟩])
   (.seq (.seq (.reg [] [.run ⟨(some 14), none, .f (.mv (.t 1))⟩,
    .run ⟨(some 15), none, .e (.call 17 [(.t 14)])⟩,
    .run ⟨(some 16), none, .f (.un .not (.t 15))⟩])
   (.ite (.t 16)
   (.seq (.reg [] [.run ⟨(some 8), none, .f (.mv (.c (.int .i64 1)))⟩])
   .ret)
   .skip))
   (.seq (.seq (.reg [] [.run ⟨(some 17), none, .f (.mv (.t 0))⟩,
    .run ⟨(some 18), none, .f (.nilCheck (.t 17))⟩,
    .run ⟨(some 19), none, .f (.fieldAddr 3 (.t 18))⟩,
    .run ⟨(some 20), none, .f (.load false 1 (.t 19))⟩])
   (.ite (.t 20)
   (.seq (.reg [] [.run ⟨(some 8), none, .f (.mv (.c (.int .i64 10)))⟩])
   .ret)
   .skip))
   r_r02_Disk_Grow_2)))
theorem k_r02_Disk_Grow : chkFn Try.prog n_r02_Disk_Grow ⟨b_r02_Disk_Grow, [.tmp 8], 112⟩ = true := by kernel_rfl
/-- (*fascine/fascineref02.Disk).Read -/
abbrev n_r02_Disk_Read : Nat := 55
def b_r02_Disk_Read : Cd := (.seq (.reg [] [.run ⟨(some 4), none, .f (.mv (.c (.sl [] 0 1 .nil)))⟩,
    .run ⟨(some 5), none, .f (.mv (.c (.int .i64 0)))⟩])
   (.seq (.reg [] [.run ⟨(some 7), none, .f (.mv (.t 0))⟩,
    .run ⟨(some 8), none, .f (.mv (.t 1))⟩,
    .run ⟨(some 9), none, .e (.call 69 [(.t 7), (.t 8)])⟩,
    .run ⟨(some 6), none, .f (.mv (.t 9))⟩])
   (.seq (.seq (.reg [] [.run ⟨(some 10), none, .f (.mv (.t 6))⟩,
    .run ⟨(some 11), none, .f (.bin .neq (.t 10) (.c (.int .i64 0)))⟩])
   (.ite (.t 11)
   (.seq (.reg [] [.run ⟨(some 12), none, .f (.mv (.t 6))⟩,
    .run ⟨(some 4), none, .f (.mv (.c (.sl [] 0 1 .nil)))⟩,
    .run ⟨(some 5), none, .f (.mv (.t 12))⟩])
   .ret)
   .skip))
   (.seq (.reg [0, 1, 2, 3, 4, 5, 6, 3, 7, 8, 9, 10, 11] [.run ⟨(some 13), none, .f (.mv (.t 0))⟩,
    .run ⟨(some 14), none, .f (.nilCheck (.t 13))⟩,
    .run ⟨(some 15), none, .f (.fieldAddr 0 (.t 14))⟩,
    .run ⟨(some 16), none, .f (.load false 1 (.t 15))⟩,
    .run ⟨(some 17), none, .f (.mv (.t 0))⟩,
    .run ⟨(some 18), none, .f (.mv (.t 1))⟩,
    .run ⟨(some 19), none, .e (.call 67 [(.t 17), (.t 18)])⟩,
    .chk 16 none (.load false 1 (.t 15)),
    .run ⟨(some 20), none, .f (.indexAddr 3 (.t 16) (.t 19))⟩,
    .run ⟨(some 21), none, .f (.fieldAddr 1 (.t 20))⟩,
    .run ⟨(some 22), none, .f (.load false 1 (.t 21))⟩,
    .run ⟨(some 4), none, .f (.mv (.t 22))⟩,
    .run ⟨(some 5), none, .f (.mv (.c (.int .i64 0)))⟩])
   .ret))))
theorem k_r02_Disk_Read : chkFn Try.prog n_r02_Disk_Read ⟨b_r02_Disk_Read, [.tmp 4, .tmp 5], 23⟩ = true := by kernel_rfl
/-- (*fascine/fascineref02.Disk).Remove -/
abbrev n_r02_Disk_Remove : Nat := 53
def b_r02_Disk_Remove : Cd := (.seq (.reg [] [.run ⟨(some 4), none, .f (.mv (.c (.int .i64 0)))⟩])
   (.seq (.reg [] [.run ⟨(some 6), none, .f (.mv (.t 0))⟩,
    .run ⟨(some 7), none, .f (.mv (.t 1))⟩,
    .run ⟨(some 8), none, .e (.call 69 [(.t 6), (.t 7)])⟩,
    .run ⟨(some 5), none, .f (.mv (.t 8))⟩])
   (.seq (.seq (.reg [] [.run ⟨(some 9), none, .f (.mv (.t 5))⟩,
    .run ⟨(some 10), none, .f (.bin .neq (.t 9) (.c (.int .i64 0)))⟩])
   (.ite (.t 10)
   (.seq (.reg [] [.run ⟨(some 11), none, .f (.mv (.t 5))⟩,
    .run ⟨(some 4), none, .f (.mv (.t 11))⟩])
   .ret)
   .skip))
   (.seq (.seq (.reg [] [.run ⟨(some 12), none, .f (.mv (.t 0))⟩,
    .run ⟨(some 13), none, .e (.call 68 [(.t 12)])⟩])
   (.ite (.t 13)
   (.seq (.reg [] [.run ⟨(some 4), none, .f (.mv (.c (.int .i64 10)))⟩])
   .ret)
   .skip))
   (.seq (.reg [] [.run ⟨(some 14), none, .f (.mv (.t 0))⟩,
    .run ⟨(some 15), none, .f (.mv (.t 1))⟩,
    .run ⟨(some 16), none, .e (.call 70 [(.t 14), (.t 15)])⟩])
   (.seq (.reg [] [.run ⟨(some 4), none, .f (.mv (.c (.int .i64 0)))⟩])
   .ret))))))
theorem k_r02_Disk_Remove : chkFn Try.prog n_r02_Disk_Remove ⟨b_r02_Disk_Remove, [.tmp 4], 17⟩ = true := by kernel_rfl
/-- (*fascine/fascineref02.Disk).Rename -/
abbrev n_r02_Disk_Rename : Nat := 54
def l_r02_Disk_Rename_0 : Cd := (.seq (.seq (.reg [] [.run ⟨(some 53), none, .f (.mv (.t 9))⟩,
    .run ⟨(some 54), none, .f (.mv (.t 0))⟩,
    .run ⟨(some 55), none, .f (.nilCheck (.t 54))⟩,
    .run ⟨(some 56), none, .f (.fieldAddr 0 (.t 55))⟩,
    .run ⟨(some 57), none, .f (.load false 1 (.t 56))⟩,
    .run ⟨(some 58), none, .f (.len .sl (.t 57))⟩,
    .run ⟨(some 59), none, .f (.bin .lss (.t 53) (.t 58))⟩,
    .run ⟨(some 60), none, .f (.mv (.t 59))⟩,
    .run ⟨(some 61), (some (60, true)), .f (.mv (.t 0))⟩,
    .run ⟨(some 62), (some (60, true)), .f (.nilCheck (.t 61))⟩,
    .run ⟨(some 63), (some (60, true)), .f (.fieldAddr 0 (.t 62))⟩,
    .run ⟨(some 64), (some (60, true)), .f (.load false 1 (.t 63))⟩,
    .run ⟨(some 65), (some (60, true)), .f (.mv (.t 9))⟩,
    .run ⟨(some 66), (some (60, true)), .f (.indexAddr 3 (.t 64) (.t 65))⟩,
    .run ⟨(some 67), (some (60, true)), .f (.fieldAddr 0 (.t 66))⟩,
    .run ⟨(some 68), (some (60, true)), .f (.load false 1 (.t 67))⟩,
    .run ⟨(some 69), (some (60, true)), .f (.mv (.t 2))⟩,
    .run ⟨(some 70), (some (60, true)), .f (.bin .lss (.t 68) (.t 69))⟩,
    .run ⟨(some 71), none, .f (.pick (.t 60) (.t 70) (.c (.bool false)))⟩])
   (.ite (.t 71)
   .skip
   (.exit 0)))
   (.blk 1 (.reg [] [.run ⟨(some 72), none, .f (.mv (.t 9))⟩,
    .run ⟨(some 73), none, .f (.bin .add (.t 72) (.c (.int .i64 1)))⟩,
    .run ⟨(some 9), none, .f (.mv (.t 73))⟩])))
def s_r02_Disk_Rename_0 : Cd := (.seq (.reg [] [.run ⟨(some 10), none, .f (.mv (.c (.sl [] 0 3 .nil)))⟩])
   (.seq (.reg [] [.run ⟨(some 74), none, .f (.mv (.t 10))⟩,
    .run ⟨(some 75), none, .f (.mv (.t 0))⟩,
    .run ⟨(some 76), none, .f (.nilCheck (.t 75))⟩,
    .run ⟨(some 77), none, .f (.fieldAddr 0 (.t 76))⟩,
    .run ⟨(some 78), none, .f (.load false 1 (.t 77))⟩,
    .run ⟨(some 79), none, .f (.mv (.t 9))⟩,
    .run ⟨(some 80), none, .f (.slice 3 (.t 78) none (some (.t 79)) none)⟩,
    .run ⟨(some 81), none, .e (.append 3 48 true (.t 74) (.t 80))⟩,
    .run ⟨(some 10), none, .f (.mv (.t 81))⟩])
   (.seq (.reg [] [.run ⟨(some 82), none, .f (.mv (.t 10))⟩,
    .run ⟨(some 83), none, .f (.mv (.t 2))⟩,
    .run ⟨(some 84), none, .f (.fieldAddr 1 (.t 8))⟩,
    .run ⟨(some 85), none, .f (.load false 1 (.t 84))⟩,
    .run ⟨(some 86), none, .f (.fieldAddr 2 (.t 8))⟩,
    .run ⟨(some 87), none, .f (.load false 1 (.t 86))⟩,
    .run ⟨(some 88), none, .f (.build [(.str (mkS [])), (.sl [] 0 1 .nil), (.int .i64 0)] [(0, 1, (.t 83)), (1, 1, (.t 85)), (2, 1, (.t 87))])⟩,
    .run ⟨(some 89), none, .e (.buildSlice 1 3 0 [(.str (mkS [])), (.sl [] 0 1 .nil), (.int .i64 0)] [(0, 3, (.t 88))])⟩,
    .run ⟨(some 90), none, .e (.append 3 48 true (.t 82) (.t 89))⟩,
    .run ⟨(some 10), none, .f (.mv (.t 90))⟩])
   (.seq (.reg [] [.run ⟨(some 91), none, .f (.mv (.t 10))⟩,
    .run ⟨(some 92), none, .f (.mv (.t 0))⟩,
    .run ⟨(some 93), none, .f (.nilCheck (.t 92))⟩,
    .run ⟨(some 94), none, .f (.fieldAddr 0 (.t 93))⟩,
    .run ⟨(some 95), none, .f (.load false 1 (.t 94))⟩,
    .run ⟨(some 96), none, .f (.mv (.t 9))⟩,
    .run ⟨(some 97), none, .f (.slice 3 (.t 95) (some (.t 96)) none none)⟩,
    .run ⟨(some 98), none, .e (.append 3 48 true (.t 91) (.t 97))⟩,
    .run ⟨(some 10), none, .f (.mv (.t 98))⟩])
   (.seq (.reg [] [.run ⟨(some 99), none, .f (.mv (.t 0))⟩,
    .run ⟨(some 100), none, .f (.mv (.t 10))⟩,
    .run ⟨(some 101), none, .f (.nilCheck (.t 99))⟩,
    .run ⟨(some 102), none, .f (.fieldAddr 0 (.t 101))⟩,
    .run ⟨none, none, .e (.store 1 (.t 102) (.t 100))⟩])
   (.seq (.reg [] [.run ⟨(some 6), none, .f (.mv (.c (.int .i64 0)))⟩])
   .ret))))))
def r_r02_Disk_Rename_0 : Cd := (.seq (.seq (.reg [] [.run ⟨(some 45), none, .f (.mv (.t 0))⟩,
    .run ⟨(some 46), none, .e (.call 68 [(.t 45)])⟩])
   (.ite (.t 46)
   (.seq (.reg [] [.run ⟨(some 6), none, .f (.mv (.c (.int .i64 10)))⟩])
   .ret)
   .skip))
   (.seq (.reg [] [.run ⟨(some 47), none, .f (.mv (.t 0))⟩,
    .run ⟨(some 48), none, .f (.mv (.t 1))⟩,
    .run ⟨(some 49), none, .e (.call 70 [(.t 47), (.t 48)])⟩])
   (.seq (.reg [] [.run ⟨(some 50), none, .f (.mv (.t 0))⟩,
    .run ⟨(some 51), none, .f (.mv (.t 2))⟩,
    .run ⟨(some 52), none, .e (.call 70 [(.t 50), (.t 51)])⟩])
   (.seq (.reg [] [.run ⟨(some 9), none, .f (.mv (.c (.int .i64 0)))⟩])
   (.seq (.blk 0 (.loop l_r02_Disk_Rename_0))
   s_r02_Disk_Rename_0)))))
def r_r02_Disk_Rename_1 : Cd := (.seq (.alt 6 9
   (.reg [0, 1, 2, 3, 4, 5, 6, 3, 7, 8, 9, 3, 8, 10] [.run ⟨(some 30), none, .f (.mv (.t 0))⟩,
    .run ⟨(some 31), none, .f (.nilCheck (.t 30))⟩,
    .run ⟨(some 32), none, .f (.fieldAddr 0 (.t 31))⟩,
    .run ⟨(some 33), none, .f (.load false 1 (.t 32))⟩,
    .run ⟨(some 34), none, .f (.mv (.t 0))⟩,
    .run ⟨(some 35), none, .f (.mv (.t 1))⟩,
    .run ⟨(some 36), none, .e (.call 67 [(.t 34), (.t 35)])⟩,
    .chk 33 none (.load false 1 (.t 32)),
    .run ⟨(some 37), none, .f (.indexAddr 3 (.t 33) (.t 36))⟩,
    .run ⟨(some 38), none, .f (.load true 3 (.t 37))⟩,
    .run ⟨(some 8), none, .e (.alloc [(.str (mkS [])), (.sl [] 0 1 .nil), (.int .i64 0)])⟩,
    .chk 33 none (.load false 1 (.t 32)),
    .chk 38 none (.load true 3 (.t 37)),
    .run ⟨none, none, .e (.store 3 (.t 8) (.t 38))⟩])
   (.reg [0, 1, 2, 3, 4, 5, 9, 3, 6, 3, 7, 8, 10] [.run ⟨(some 30), none, .f (.mv (.t 0))⟩,
    .run ⟨(some 31), none, .f (.nilCheck (.t 30))⟩,
    .run ⟨(some 32), none, .f (.fieldAddr 0 (.t 31))⟩,
    .run ⟨(some 33), none, .f (.load false 1 (.t 32))⟩,
    .run ⟨(some 34), none, .f (.mv (.t 0))⟩,
    .run ⟨(some 35), none, .f (.mv (.t 1))⟩,
    .run ⟨(some 8), none, .e (.alloc [(.str (mkS [])), (.sl [] 0 1 .nil), (.int .i64 0)])⟩,
    .chk 33 none (.load false 1 (.t 32)),
    .run ⟨(some 36), none, .e (.call 67 [(.t 34), (.t 35)])⟩,
    .chk 33 none (.load false 1 (.t 32)),
    .run ⟨(some 37), none, .f (.indexAddr 3 (.t 33) (.t 36))⟩,
    .run ⟨(some 38), none, .f (.load true 3 (.t 37))⟩,
    .run ⟨none, none, .e (.store 3 (.t 8) (.t 38))⟩]))
   (.seq (.seq (.reg [] [.run ⟨(some 39), none, .f (.fieldAddr 2 (.t 8))⟩,
    .run ⟨(some 40), none, .f (.load false 1 (.t 39))⟩,
    .run ⟨(some 41), none, .f (.fieldAddr 1 (.t 8))⟩,
    .run ⟨(some 42), none, .f (.load false 1 (.t 41))⟩,
    .run ⟨(some 43), none, .f (.len .sl (.t 42))⟩,
    .run ⟨(some 44), none, .f (.bin .lss (.t 40) (.t 43))⟩])
   (.ite (.t 44)
   (.seq (.reg [] [.run ⟨(some 6), none, .f (.mv (.c (.int .i64 12)))⟩])
   .ret)
   .skip))
   r_r02_Disk_Rename_0))
def b_r02_Disk_Rename : Cd := (.seq (.reg [] [.run ⟨(some 6), none, .f (.mv (.c (.int .i64 0)))⟩])
   (.seq (.seq (.reg [] [.run ⟨(some 11), none, .f (.mv (.t 1))⟩,
    .run ⟨(some 12), none, .e (.call 17 [(.t 11)])⟩,
    .run ⟨(some 13), none, .f (.un .not (.t 12))⟩,
    .run ⟨(some 14), none, .f (.mv (.t 13))⟩,
    .run ⟨(some 15), (some (14, false)), .f (.mv (.t 2))⟩,
    .run ⟨(some 16), (some (14, false)), .e (.call 17 [(.t 15)])⟩,
    .run ⟨(some 17), (some (14, false)), .f (.un .not (.t 16))⟩,
    .run ⟨(some 18), none, .f (.pick (.t 14) (.c (.bool true)) (.t 17))⟩,
    .run ⟨(some 19), none, .f (.mv (.t 18))⟩,
    .run ⟨(some 20), (some (19, false)), .f (.mv (.t 1))⟩,
    .run ⟨(some 21), (some (19, false)), .f (.mv (.t 2))⟩,
    .run ⟨(some 22), (some (19, false)), .f (.bin .eql (.t 20) (.t 21))⟩,
    .run ⟨(some 23), none, .f (.pick (.t 19) (.c (.bool true)) (.t 22))⟩])
   (.ite (.t 23)
   (.seq (.reg [] [.run ⟨(some 6), none, .f (.mv (.c (.int .i64 1)))⟩])
   .ret)
   .skip))
   (.seq (.reg [] [.run ⟨(some 24), none, .f (.mv (.t 0))⟩,
    .run ⟨(some 25), none, .f (.mv (.t 1))⟩,
    .run ⟨(some 26), none, .e (.call 69 [(.t 24), (.t 25)])⟩,
    .run ⟨(some 7), none, .f (.mv (.t 26))⟩])
   (.seq (.seq (.reg [] [.run ⟨(some 27), none, .f (.mv (.t 7))⟩,
    .run ⟨(some 28), none, .f (.bin .neq (.t 27) (.c (.int .i64 0)))⟩])
   (.ite (.t 28)
   (.seq (.reg [] [.run ⟨(some 29), none, .f (.mv (.t 7))⟩,
    .run ⟨(some 6), none, .f (.mv (.t 29))⟩])
   .ret)
   .skip))
   r_r02_Disk_Rename_1))))
theorem k_r02_Disk_Rename : chkFn Try.prog n_r02_Disk_Rename ⟨b_r02_Disk_Rename, [.tmp 6], 103⟩ = true := by kernel_rfl
/-- (*fascine/fascineref02.Disk).Restart -/
abbrev n_r02_Disk_Restart : Nat := 56
def r_r02_Disk_Restart_0 : Cd := (.seq (.reg [0, 1, 2, 3, 4, 5, 6, 7, 8, 9, 10, 11] [.run ⟨(some 56), none, .f (.mv (.t 0))⟩,
    .run ⟨(some 57), none, .f (.nilCheck (.t 56))⟩,
    .run ⟨(some 58), none, .f (.fieldAddr 0 (.t 57))⟩,
    .run ⟨(some 59), none, .f (.load false 1 (.t 58))⟩,
    .run ⟨(some 60), none, .f (.mv (.t 4))⟩,
    .run ⟨(some 61), none, .f (.fieldAddr 1 (.t 5))⟩,
    .run ⟨(some 62), none, .f (.load false 1 (.t 61))⟩,
    .run ⟨(some 63), none, .f (.mv (.t 6))⟩,
    .run ⟨(some 64), none, .f (.slice 1 (.t 62) none (some (.t 63)) none)⟩,
    .run ⟨(some 65), none, .f (.indexAddr 3 (.t 59) (.t 60))⟩,
    .run ⟨(some 66), none, .f (.fieldAddr 1 (.t 65))⟩,
    .run ⟨none, none, .e (.store 1 (.t 66) (.t 64))⟩])
   (.reg [] [.run ⟨(some 67), none, .f (.mv (.t 0))⟩,
    .run ⟨(some 68), none, .f (.nilCheck (.t 67))⟩,
    .run ⟨(some 69), none, .f (.fieldAddr 0 (.t 68))⟩,
    .run ⟨(some 70), none, .f (.load false 1 (.t 69))⟩,
    .run ⟨(some 71), none, .f (.mv (.t 4))⟩,
    .run ⟨(some 72), none, .f (.mv (.t 6))⟩,
    .run ⟨(some 73), none, .f (.indexAddr 3 (.t 70) (.t 71))⟩,
    .run ⟨(some 74), none, .f (.fieldAddr 2 (.t 73))⟩,
    .run ⟨none, none, .e (.store 1 (.t 74) (.t 72))⟩]))
def k_r02_Disk_Restart_0 : Cd := (.seq (.reg [] [.run ⟨(some 16), none, .f (.mv (.t 0))⟩,
    .run ⟨(some 17), none, .f (.nilCheck (.t 16))⟩,
    .run ⟨(some 18), none, .f (.fieldAddr 0 (.t 17))⟩,
    .run ⟨(some 19), none, .f (.load false 1 (.t 18))⟩,
    .run ⟨(some 20), none, .f (.mv (.t 4))⟩,
    .run ⟨(some 21), none, .f (.indexAddr 3 (.t 19) (.t 20))⟩,
    .run ⟨(some 22), none, .f (.load true 3 (.t 21))⟩,
    .run ⟨(some 5), none, .e (.alloc [(.str (mkS [])), (.sl [] 0 1 .nil), (.int .i64 0)])⟩,
    .run ⟨none, none, .e (.store 3 (.t 5) (.t 22))⟩])
   (.seq (.reg [] [.run ⟨(some 23), none, .f (.fieldAddr 2 (.t 5))⟩,
    .run ⟨(some 24), none, .f (.load false 1 (.t 23))⟩,
    .run ⟨(some 6), none, .f (.mv (.t 24))⟩])
   (.seq (.seq (.reg [] [.run ⟨(some 25), none, .f (.mv (.t 4))⟩,
    .run ⟨(some 26), none, .f (.mv (.t 1))⟩,
    .run ⟨(some 27), none, .f (.len .sl (.t 26))⟩,
    .run ⟨(some 28), none, .f (.bin .lss (.t 25) (.t 27))⟩,
    .run ⟨(some 29), none, .f (.mv (.t 28))⟩,
    .run ⟨(some 30), (some (29, true)), .f (.mv (.t 1))⟩,
    .run ⟨(some 31), (some (29, true)), .f (.mv (.t 4))⟩,
    .run ⟨(some 32), (some (29, true)), .f (.indexAddr 1 (.t 30) (.t 31))⟩,
    .run ⟨(some 33), (some (29, true)), .f (.load false 1 (.t 32))⟩,
    .run ⟨(some 34), (some (29, true)), .f (.bin .gtr (.t 33) (.c (.int .i64 0)))⟩,
    .run ⟨(some 35), none, .f (.pick (.t 29) (.t 34) (.c (.bool false)))⟩])
   (.ite (.t 35)
   (.seq (.reg [0, 1, 2, 3, 4, 5, 6, 7, 8, 9, 10] [.run ⟨(some 36), none, .f (.mv (.t 1))⟩,
    .run ⟨(some 37), none, .f (.mv (.t 4))⟩,
    .run ⟨(some 38), none, .f (.indexAddr 1 (.t 36) (.t 37))⟩,
    .run ⟨(some 39), none, .f (.load false 1 (.t 38))⟩,
    .run ⟨(some 40), none, .f (.fieldAddr 1 (.t 5))⟩,
    .run ⟨(some 41), none, .f (.load false 1 (.t 40))⟩,
    .run ⟨(some 42), none, .f (.len .sl (.t 41))⟩,
    .run ⟨(some 43), none, .f (.fieldAddr 2 (.t 5))⟩,
    .run ⟨(some 44), none, .f (.load false 1 (.t 43))⟩,
    .run ⟨(some 45), none, .f (.bin .sub (.t 42) (.t 44))⟩,
    .run ⟨(some 46), none, .f (.bin .gtr (.t 39) (.t 45))⟩])
   (.ite (.t 46)
   (.reg [] [.run ⟨(some 47), none, .f (.fieldAddr 1 (.t 5))⟩,
    .run ⟨(some 48), none, .f (.load false 1 (.t 47))⟩,
    .run ⟨(some 49), none, .f (.len .sl (.t 48))⟩,
    .run ⟨(some 6), none, .f (.mv (.t 49))⟩])
   (.reg [] [.run ⟨(some 50), none, .f (.mv (.t 6))⟩,
    .run ⟨(some 51), none, .f (.mv (.t 1))⟩,
    .run ⟨(some 52), none, .f (.mv (.t 4))⟩,
    .run ⟨(some 53), none, .f (.indexAddr 1 (.t 51) (.t 52))⟩,
    .run ⟨(some 54), none, .f (.load false 1 (.t 53))⟩,
    .run ⟨(some 55), none, .f (.bin .add (.t 50) (.t 54))⟩,
    .run ⟨(some 6), none, .f (.mv (.t 55))⟩])))
   .skip))
   r_r02_Disk_Restart_0)))
def l_r02_Disk_Restart_0 : Cd := (.seq (.seq (.reg [] [.run ⟨(some 7), none, .f (.mv (.t 4))⟩,
    .run ⟨(some 8), none, .f (.mv (.t 0))⟩,
    .run ⟨(some 9), none, .f (.nilCheck (.t 8))⟩,
    .run ⟨(some 10), none, .f (.fieldAddr 0 (.t 9))⟩,
    .run ⟨(some 11), none, .f (.load false 1 (.t 10))⟩,
    .run ⟨(some 12), none, .f (.len .sl (.t 11))⟩,
    .run ⟨(some 13), none, .f (.bin .lss (.t 7) (.t 12))⟩])
   (.ite (.t 13)
   .skip
   (.exit 0)))
   (.seq (.blk 1 k_r02_Disk_Restart_0)
   (.reg [] [.run ⟨(some 14), none, .f (.mv (.t 4))⟩,
    .run ⟨(some 15), none, .f (.bin .add (.t 14) (.c (.int .i64 1)))⟩,
    .run ⟨(some 4), none, .f (.mv (.t 15))⟩])))
def s_r02_Disk_Restart_0 : Cd := (.seq (.reg [] [.run ⟨(some 75), none, .f (.mv (.t 0))⟩,
    .run ⟨(some 76), none, .f (.nilCheck (.t 75))⟩,
    .run ⟨(some 77), none, .f (.fieldAddr 3 (.t 76))⟩,
    .run ⟨none, none, .e (.store 1 (.t 77) (.c (.bool false)))⟩])
   (.reg [] [.run ⟨(some 78), none, .f (.mv (.t 0))⟩,
    .run ⟨(some 79), none, .f (.nilCheck (.t 78))⟩,
    .run ⟨(some 80), none, .f (.fieldAddr 2 (.t 79))⟩,
    .run ⟨none, none, .e (.store 1 (.t 80) (.c (.int .i64 0)))⟩]))
def b_r02_Disk_Restart : Cd := (.seq (.seq (.reg [] [.run ⟨(some 4), none, .f (.mv (.c (.int .i64 0)))⟩])
   (.blk 0 (.loop l_r02_Disk_Restart_0)))
   s_r02_Disk_Restart_0)
theorem k_r02_Disk_Restart : chkFn Try.prog n_r02_Disk_Restart ⟨b_r02_Disk_Restart, [], 81⟩ = true := by kernel_rfl
/-- (*fascine/fascineref02.Disk).Sync -/
abbrev n_r02_Disk_Sync : Nat := 52
def b_r02_Disk_Sync : Cd := (.seq (.reg [] [.run ⟨(some 4), none, .f (.mv (.c (.int .i64 0)))⟩])
   (.seq (.reg [] [.run ⟨(some 7), none, .f (.mv (.t 0))⟩,
    .run ⟨(some 8), none, .f (.mv (.t 1))⟩,
    .run ⟨(some 9), none, .e (.call 69 [(.t 7), (.t 8)])⟩,
    .run ⟨(some 5), none, .f (.mv (.t 9))⟩])
   (.seq (.seq (.reg [] [.run ⟨(some 10), none, .f (.mv (.t 5))⟩,
    .run ⟨(some 11), none, .f (.bin .neq (.t 10) (.c (.int .i64 0)))⟩])
   (.ite (.t 11)
   (.seq (.reg [] [.run ⟨(some 12), none, .f (.mv (.t 5))⟩,
    .run ⟨(some 4), none, .f (.mv (.t 12))⟩])
   .ret)
   .skip))
   (.seq (.seq (.reg [] [.run ⟨(some 13), none, .f (.mv (.t 0))⟩,
    .run ⟨(some 14), none, .e (.call 68 [(.t 13)])⟩])
   (.ite (.t 14)
   (.seq (.reg [] [.run ⟨(some 4), none, .f (.mv (.c (.int .i64 10)))⟩])
   .ret)
   .skip))
   (.seq (.reg [] [.run ⟨(some 15), none, .f (.mv (.t 0))⟩,
    .run ⟨(some 16), none, .f (.mv (.t 1))⟩,
    .run ⟨(some 17), none, .e (.call 67 [(.t 15), (.t 16)])⟩,
    .run ⟨(some 6), none, .f (.mv (.t 17))⟩])
   (.seq (.reg [0, 1, 2, 3, 4, 5, 6, 7, 8, 9, 10, 11, 12, 13, 14, 15, 16] [.run ⟨(some 18), none, .f (.mv (.t 0))⟩,
    .run ⟨(some 19), none, .f (.nilCheck (.t 18))⟩,
    .run ⟨(some 20), none, .f (.fieldAddr 0 (.t 19))⟩,
    .run ⟨(some 21), none, .f (.load false 1 (.t 20))⟩,
    .run ⟨(some 22), none, .f (.mv (.t 6))⟩,
    .run ⟨(some 23), none, .f (.mv (.t 0))⟩,
    .run ⟨(some 24), none, .f (.nilCheck (.t 23))⟩,
    .run ⟨(some 25), none, .f (.fieldAddr 0 (.t 24))⟩,
    .run ⟨(some 26), none, .f (.load false 1 (.t 25))⟩,
    .run ⟨(some 27), none, .f (.mv (.t 6))⟩,
    .run ⟨(some 28), none, .f (.indexAddr 3 (.t 26) (.t 27))⟩,
    .run ⟨(some 29), none, .f (.fieldAddr 1 (.t 28))⟩,
    .run ⟨(some 30), none, .f (.load false 1 (.t 29))⟩,
    .run ⟨(some 31), none, .f (.len .sl (.t 30))⟩,
    .run ⟨(some 32), none, .f (.indexAddr 3 (.t 21) (.t 22))⟩,
    .run ⟨(some 33), none, .f (.fieldAddr 2 (.t 32))⟩,
    .run ⟨none, none, .e (.store 1 (.t 33) (.t 31))⟩])
   (.seq (.reg [] [.run ⟨(some 4), none, .f (.mv (.c (.int .i64 0)))⟩])
   .ret)))))))
theorem k_r02_Disk_Sync : chkFn Try.prog n_r02_Disk_Sync ⟨b_r02_Disk_Sync, [.tmp 4], 34⟩ = true := by kernel_rfl
/-- (*fascine/fascineref02.Disk).Used -/
abbrev n_r02_Disk_Used : Nat := 59
def l_r02_Disk_Used_0 : Cd := (.seq (.seq (.reg [] [.run ⟨(some 5), none, .f (.mv (.t 4))⟩,
    .run ⟨(some 6), none, .f (.mv (.t 0))⟩,
    .run ⟨(some 7), none, .f (.nilCheck (.t 6))⟩,
    .run ⟨(some 8), none, .f (.fieldAddr 0 (.t 7))⟩,
    .run ⟨(some 9), none, .f (.load false 1 (.t 8))⟩,
    .run ⟨(some 10), none, .f (.len .sl (.t 9))⟩,
    .run ⟨(some 11), none, .f (.bin .lss (.t 5) (.t 10))⟩])
   (.ite (.t 11)
   .skip
   (.exit 0)))
   (.seq (.blk 1 (.reg [] [.run ⟨(some 14), none, .f (.mv (.t 3))⟩,
    .run ⟨(some 15), none, .f (.mv (.t 0))⟩,
    .run ⟨(some 16), none, .f (.nilCheck (.t 15))⟩,
    .run ⟨(some 17), none, .f (.fieldAddr 0 (.t 16))⟩,
    .run ⟨(some 18), none, .f (.load false 1 (.t 17))⟩,
    .run ⟨(some 19), none, .f (.mv (.t 4))⟩,
    .run ⟨(some 20), none, .f (.indexAddr 3 (.t 18) (.t 19))⟩,
    .run ⟨(some 21), none, .f (.fieldAddr 1 (.t 20))⟩,
    .run ⟨(some 22), none, .f (.load false 1 (.t 21))⟩,
    .run ⟨(some 23), none, .f (.len .sl (.t 22))⟩,
    .run ⟨(some 24), none, .f (.bin .add (.t 14) (.t 23))⟩,
    .run ⟨(some 3), none, .f (.mv (.t 24))⟩]))
   (.reg [] [.run ⟨(some 12), none, .f (.mv (.t 4))⟩,
    .run ⟨(some 13), none, .f (.bin .add (.t 12) (.c (.int .i64 1)))⟩,
    .run ⟨(some 4), none, .f (.mv (.t 13))⟩])))
def b_r02_Disk_Used : Cd := (.seq (.reg [] [.run ⟨(some 2), none, .f (.mv (.c (.int .i64 0)))⟩])
   (.seq (.reg [] [.run ⟨(some 3), none, .f (.mv (.c (.int .i64 0)))⟩])
   (.seq (.seq (.reg [] [.run ⟨(some 4), none, .f (.mv (.c (.int .i64 0)))⟩])
   (.blk 0 (.loop l_r02_Disk_Used_0)))
   (.seq (.reg [] [.run ⟨(some 25), none, .f (.mv (.t 3))⟩,
    .run ⟨(some 2), none, .f (.mv (.t 25))⟩])
   .ret))))
theorem k_r02_Disk_Used : chkFn Try.prog n_r02_Disk_Used ⟨b_r02_Disk_Used, [.tmp 2], 26⟩ = true := by kernel_rfl
/-- (*fascine/fascineref02.Disk).drop -/
abbrev n_r02_Disk_drop : Nat := 70
def l_r02_Disk_drop_0 : Cd := (.seq (.seq (.reg [] [.run ⟨(some 6), none, .f (.mv (.t 5))⟩,
    .run ⟨(some 7), none, .f (.mv (.t 0))⟩,
    .run ⟨(some 8), none, .f (.nilCheck (.t 7))⟩,
    .run ⟨(some 9), none, .f (.fieldAddr 0 (.t 8))⟩,
    .run ⟨(some 10), none, .f (.load false 1 (.t 9))⟩,
    .run ⟨(some 11), none, .f (.len .sl (.t 10))⟩,
    .run ⟨(some 12), none, .f (.bin .lss (.t 6) (.t 11))⟩])
   (.ite (.t 12)
   .skip
   (.exit 0)))
   (.seq (.blk 1 (.seq (.reg [] [.run ⟨(some 15), none, .f (.mv (.t 0))⟩,
    .run ⟨(some 16), none, .f (.nilCheck (.t 15))⟩,
    .run ⟨(some 17), none, .f (.fieldAddr 0 (.t 16))⟩,
    .run ⟨(some 18), none, .f (.load false 1 (.t 17))⟩,
    .run ⟨(some 19), none, .f (.mv (.t 5))⟩,
    .run ⟨(some 20), none, .f (.indexAddr 3 (.t 18) (.t 19))⟩,
    .run ⟨(some 21), none, .f (.fieldAddr 0 (.t 20))⟩,
    .run ⟨(some 22), none, .f (.load false 1 (.t 21))⟩,
    .run ⟨(some 23), none, .f (.mv (.t 1))⟩,
    .run ⟨(some 24), none, .f (.bin .neq (.t 22) (.t 23))⟩])
   (.ite (.t 24)
   (.reg [] [.run ⟨(some 25), none, .f (.mv (.t 4))⟩,
    .run ⟨(some 26), none, .f (.mv (.t 0))⟩,
    .run ⟨(some 27), none, .f (.nilCheck (.t 26))⟩,
    .run ⟨(some 28), none, .f (.fieldAddr 0 (.t 27))⟩,
    .run ⟨(some 29), none, .f (.load false 1 (.t 28))⟩,
    .run ⟨(some 30), none, .f (.mv (.t 5))⟩,
    .run ⟨(some 31), none, .f (.indexAddr 3 (.t 29) (.t 30))⟩,
    .run ⟨(some 32), none, .f (.load true 3 (.t 31))⟩,
    .run ⟨(some 33), none, .e (.buildSlice 1 3 0 [(.str (mkS [])), (.sl [] 0 1 .nil), (.int .i64 0)] [(0, 3, (.t 32))])⟩,
    .run ⟨(some 34), none, .e (.append 3 48 true (.t 25) (.t 33))⟩,
    .run ⟨(some 4), none, .f (.mv (.t 34))⟩])
   .skip)))
   (.reg [] [.run ⟨(some 13), none, .f (.mv (.t 5))⟩,
    .run ⟨(some 14), none, .f (.bin .add (.t 13) (.c (.int .i64 1)))⟩,
    .run ⟨(some 5), none, .f (.mv (.t 14))⟩])))
def b_r02_Disk_drop : Cd := (.seq (.reg [] [.run ⟨(some 4), none, .f (.mv (.c (.sl [] 0 3 .nil)))⟩])
   (.seq (.seq (.reg [] [.run ⟨(some 5), none, .f (.mv (.c (.int .i64 0)))⟩])
   (.blk 0 (.loop l_r02_Disk_drop_0)))
   (.reg [] [.run ⟨(some 35), none, .f (.mv (.t 0))⟩,
    .run ⟨(some 36), none, .f (.mv (.t 4))⟩,
    .run ⟨(some 37), none, .f (.nilCheck (.t 35))⟩,
    .run ⟨(some 38), none, .f (.fieldAddr 0 (.t 37))⟩,
    .run ⟨none, none, .e (.store 1 (.t 38) (.t 36))⟩])))
theorem k_r02_Disk_drop : chkFn Try.prog n_r02_Disk_drop ⟨b_r02_Disk_drop, [], 39⟩ = true := by kernel_rfl
/-- (*fascine/fascineref02.Disk).op -/
abbrev n_r02_Disk_op : Nat := 68
def b_r02_Disk_op : Cd := (.seq (.reg [] [.run ⟨(some 2), none, .f (.mv (.c (.bool false)))⟩])
   (.seq (.reg [] [.run ⟨(some 3), none, .f (.mv (.t 0))⟩,
    .run ⟨(some 4), none, .f (.nilCheck (.t 3))⟩,
    .run ⟨(some 5), none, .f (.fieldAddr 4 (.t 4))⟩,
    .run ⟨(some 6), none, .f (.load false 1 (.t 5))⟩,
    .run ⟨(some 7), none, .f (.bin .add (.t 6) (.c (.int .i64 1)))⟩,
    .run ⟨(some 8), none, .f (.nilCheck (.t 3))⟩,
    .run ⟨(some 9), none, .f (.fieldAddr 4 (.t 8))⟩,
    .run ⟨none, none, .e (.store 1 (.t 9) (.t 7))⟩])
   (.seq (.seq (.reg [] [.run ⟨(some 10), none, .f (.mv (.t 0))⟩,
    .run ⟨(some 11), none, .f (.nilCheck (.t 10))⟩,
    .run ⟨(some 12), none, .f (.fieldAddr 2 (.t 11))⟩,
    .run ⟨(some 13), none, .f (.load false 1 (.t 12))⟩,
    .run ⟨(some 14), none, .f (.bin .gtr (.t 13) (.c (.int .i64 0)))⟩])
   (.ite (.t 14)
   (.seq (.reg [] [.run ⟨(some 15), none, .f (.mv (.t 0))⟩,
    .run ⟨(some 16), none, .f (.nilCheck (.t 15))⟩,
    .run ⟨(some 17), none, .f (.fieldAddr 2 (.t 16))⟩,
    .run ⟨(some 18), none, .f (.load false 1 (.t 17))⟩,
    .run ⟨(some 19), none, .f (.bin .sub (.t 18) (.c (.int .i64 1)))⟩,
    .run ⟨(some 20), none, .f (.nilCheck (.t 15))⟩,
    .run ⟨(some 21), none, .f (.fieldAddr 2 (.t 20))⟩,
    .run ⟨none, none, .e (.store 1 (.t 21) (.t 19))⟩])
   (.seq (.reg [] [.run ⟨(some 22), none, .f (.mv (.t 0))⟩,
    .run ⟨(some 23), none, .f (.nilCheck (.t 22))⟩,
    .run ⟨(some 24), none, .f (.fieldAddr 2 (.t 23))⟩,
    .run ⟨(some 25), none, .f (.load false 1 (.t 24))⟩,
    .run ⟨(some 26), none, .f (.bin .eql (.t 25) (.c (.int .i64 0)))⟩])
   (.ite (.t 26)
   (.reg [] [.run ⟨(some 27), none, .f (.mv (.t 0))⟩,
    .run ⟨(some 28), none, .f (.nilCheck (.t 27))⟩,
    .run ⟨(some 29), none, .f (.fieldAddr 3 (.t 28))⟩,
    .run ⟨none, none, .e (.store 1 (.t 29) (.c (.bool true)))⟩])
   .skip)))
   .skip))
   (.seq (.reg [] [.run ⟨(some 30), none, .f (.mv (.t 0))⟩,
    .run ⟨(some 31), none, .f (.nilCheck (.t 30))⟩,
    .run ⟨(some 32), none, .f (.fieldAddr 3 (.t 31))⟩,
    .run ⟨(some 33), none, .f (.load false 1 (.t 32))⟩,
    .run ⟨(some 2), none, .f (.mv (.t 33))⟩])
   .ret))))
theorem k_r02_Disk_op : chkFn Try.prog n_r02_Disk_op ⟨b_r02_Disk_op, [.tmp 2], 34⟩ = true := by kernel_rfl
/-- (*fascine/fascineref02.Disk).there -/
abbrev n_r02_Disk_there : Nat := 69
def b_r02_Disk_there : Cd := (.seq (.reg [] [.run ⟨(some 4), none, .f (.mv (.c (.int .i64 0)))⟩])
   (.seq (.seq (.reg [] [.run ⟨(some 5), none, .f (.mv (.t 1))⟩,
    .run ⟨(some 6), none, .e (.call 17 [(.t 5)])⟩,
    .run ⟨(some 7), none, .f (.un .not (.t 6))⟩])
   (.ite (.t 7)
   (.seq (.reg [] [.run ⟨(some 4), none, .f (.mv (.c (.int .i64 1)))⟩])
   .ret)
   .skip))
   (.seq (.seq (.reg [] [.run ⟨(some 8), none, .f (.mv (.t 0))⟩,
    .run ⟨(some 9), none, .f (.nilCheck (.t 8))⟩,
    .run ⟨(some 10), none, .f (.fieldAddr 3 (.t 9))⟩,
    .run ⟨(some 11), none, .f (.load false 1 (.t 10))⟩])
   (.ite (.t 11)
   (.seq (.reg [] [.run ⟨(some 4), none, .f (.mv (.c (.int .i64 10)))⟩])
   .ret)
   .skip))
   (.seq (.seq (.reg [] [.run ⟨(some 12), none, .f (.mv (.t 0))⟩,
    .run ⟨(some 13), none, .f (.mv (.t 1))⟩,
    .run ⟨(some 14), none, .e (.call 67 [(.t 12), (.t 13)])⟩,
    .run ⟨(some 15), none, .f (.bin .lss (.t 14) (.c (.int .i64 0)))⟩])
   (.ite (.t 15)
   (.seq (.reg [] [.run ⟨(some 4), none, .f (.mv (.c (.int .i64 8)))⟩])
   .ret)
   .skip))
   (.seq (.reg [] [.run ⟨(some 4), none, .f (.mv (.c (.int .i64 0)))⟩])
   .ret)))))
theorem k_r02_Disk_there : chkFn Try.prog n_r02_Disk_there ⟨b_r02_Disk_there, [.tmp 4], 16⟩ = true := by kernel_rfl
end Go.VM
