/-
  The codes of functions, as the value machine has them, and that they stand for the model's (printed by a program, wip/gen).
-/
import Derived.Test.YtemimcgomickoaaL04
import Derived.Test.YtemimcgomickoaaProg
import Derived.KernelRfl
set_option linter.unusedVariables false
set_option maxRecDepth 100000
namespace Go.VM
open Go Go.Proofs
abbrev n_l15_RaftLogs : Nat := 4
def k_l15_RaftLogs_0 : Cd := (.seq (.reg [0, 1, 2, 3, 4, 5, 6, 7, 8, 9, 10, 11, 12, 13, 14, 15, 16, 17, 18, 19, 20, 21, 22, 23, 24, 25, 26, 27, 28, 29, 30, 31, 32, 33, 34, 35] [fi 52 (.mv (.t 5)),
  fi 53 (.nilCheck (.t 52)),
  fi 54 (.fieldAddr 2 (.t 53)),
  fi 55 (.load false 1 (.t 54)),
  fi 56 (.mv (.t 7)),
  fi 57 (.indexAddr 1 (.t 55) (.t 56)),
  fi 58 (.load false 1 (.t 57)),
  fi 59 (.eq true .ptr (.t 58) (.c (.ptr none))),
  fi 60 (.mv (.t 59)),
  .run ⟨(some 61), (some (60, true)), .f (.mv (.t 5))⟩,
  .run ⟨(some 62), (some (60, true)), .f (.nilCheck (.t 61))⟩,
  .run ⟨(some 63), (some (60, true)), .f (.fieldAddr 2 (.t 62))⟩,
  .run ⟨(some 64), (some (60, true)), .f (.load false 1 (.t 63))⟩,
  .run ⟨(some 65), (some (60, true)), .f (.mv (.t 8))⟩,
  .run ⟨(some 66), (some (60, true)), .f (.indexAddr 1 (.t 64) (.t 65))⟩,
  .run ⟨(some 67), (some (60, true)), .f (.load false 1 (.t 66))⟩,
  .run ⟨(some 68), (some (60, true)), .f (.eq true .ptr (.t 67) (.c (.ptr none)))⟩,
  fi 69 (.pick (.t 60) (.t 68) (.c (.bool false))),
  fi 70 (.mv (.t 69)),
  .run ⟨(some 71), (some (70, true)), .f (.mv (.t 5))⟩,
  .run ⟨(some 72), (some (70, true)), .f (.nilCheck (.t 71))⟩,
  .run ⟨(some 73), (some (70, true)), .f (.fieldAddr 2 (.t 72))⟩,
  .run ⟨(some 74), (some (70, true)), .f (.load false 1 (.t 73))⟩,
  .run ⟨(some 75), (some (70, true)), .f (.mv (.t 7))⟩,
  .run ⟨(some 76), (some (70, true)), .f (.indexAddr 1 (.t 74) (.t 75))⟩,
  .run ⟨(some 77), (some (70, true)), .f (.load false 1 (.t 76))⟩,
  .run ⟨(some 78), (some (70, true)), .f (.mv (.t 5))⟩,
  .run ⟨(some 79), (some (70, true)), .f (.nilCheck (.t 78))⟩,
  .run ⟨(some 80), (some (70, true)), .f (.fieldAddr 2 (.t 79))⟩,
  .run ⟨(some 81), (some (70, true)), .f (.load false 1 (.t 80))⟩,
  .run ⟨(some 82), (some (70, true)), .f (.mv (.t 8))⟩,
  .run ⟨(some 83), (some (70, true)), .f (.indexAddr 1 (.t 81) (.t 82))⟩,
  .run ⟨(some 84), (some (70, true)), .f (.load false 1 (.t 83))⟩,
  .run ⟨(some 85), (some (70, true)), .e (.call 8 [(.t 77), (.t 84)])⟩,
  .run ⟨(some 86), (some (70, true)), .f (.un .not (.t 85))⟩,
  fi 87 (.pick (.t 70) (.t 86) (.c (.bool false)))])
 (.ite (.t 87)
 (.seq (.reg [] [fi 4 (.mv (.c (.bool false)))])
 .ret)
 .skip))
def l_l15_RaftLogs_0 : Cd := (.seq (.seq (.reg [] [fi 47 (.mv (.t 8)),
  fi 48 (.mv (.t 7)),
  fi 49 (.bin .lss (.t 47) (.t 48))])
 (.ite (.t 49)
 .skip
 (.exit 4)))
 (.seq (.blk 5 k_l15_RaftLogs_0)
 (.reg [] [fi 50 (.mv (.t 8)),
  fi 51 (.bin .add (.t 50) (.c (.int .i64 1))),
  fi 8 (.mv (.t 51))])))
def l_l15_RaftLogs_1 : Cd := (.seq (.seq (.reg [] [fi 39 (.mv (.t 7)),
  fi 40 (.mv (.t 5)),
  fi 41 (.nilCheck (.t 40)),
  fi 42 (.fieldAddr 0 (.t 41)),
  fi 43 (.load false 1 (.t 42)),
  fi 44 (.bin .lss (.t 39) (.t 43))])
 (.ite (.t 44)
 .skip
 (.exit 2)))
 (.seq (.blk 3 (.seq (.reg [] [fi 8 (.mv (.c (.int .i64 0)))])
 (.blk 4 (.loop l_l15_RaftLogs_0))))
 (.reg [] [fi 45 (.mv (.t 7)),
  fi 46 (.bin .add (.t 45) (.c (.int .i64 1))),
  fi 7 (.mv (.t 46))])))
def l_l15_RaftLogs_2 : Cd := (.seq (.seq (.reg [] [fi 16 (.mv (.t 6)),
  fi 17 (.mv (.t 1)),
  fi 18 (.len .sl (.t 17)),
  fi 19 (.bin .lss (.t 16) (.t 18)),
  fi 20 (.mv (.t 19)),
  .run ⟨(some 21), (some (20, true)), .f (.mv (.t 6))⟩,
  .run ⟨(some 22), (some (20, true)), .f (.bin .lss (.t 21) (.c (.int .i64 150)))⟩,
  fi 23 (.pick (.t 20) (.t 22) (.c (.bool false))),
  fi 24 (.mv (.t 23)),
  .run ⟨(some 25), (some (24, true)), .f (.mv (.t 5))⟩,
  .run ⟨(some 26), (some (24, true)), .f (.nilCheck (.t 25))⟩,
  .run ⟨(some 27), (some (24, true)), .f (.fieldAddr 11 (.t 26))⟩,
  .run ⟨(some 28), (some (24, true)), .f (.load false 1 (.t 27))⟩,
  .run ⟨(some 29), (some (24, true)), .f (.un .not (.t 28))⟩,
  fi 30 (.pick (.t 24) (.t 29) (.c (.bool false)))])
 (.ite (.t 30)
 .skip
 (.exit 0)))
 (.seq (.blk 1 (.seq (.reg [] [fi 33 (.mv (.t 5)),
  fi 34 (.mv (.t 1)),
  fi 35 (.mv (.t 6)),
  fi 36 (.indexAddr 6 (.t 34) (.t 35)),
  fi 37 (.load true 6 (.t 36)),
  ei 38 (.call 7 [(.t 33), (.t 37)])])
 (.seq (.reg [] [fi 7 (.mv (.c (.int .i64 0)))])
 (.blk 2 (.loop l_l15_RaftLogs_1)))))
 (.reg [] [fi 31 (.mv (.t 6)),
  fi 32 (.bin .add (.t 31) (.c (.int .i64 1))),
  fi 6 (.mv (.t 32))])))
def b_l15_RaftLogs : Cd := (.seq (.reg [] [fi 4 (.mv (.c (.bool false)))])
 (.seq (.seq (.reg [] [ei 9 (.call 5 []),
  fi 10 (.un .not (.t 9))])
 (.ite (.t 10)
 (.seq (.reg [] [fi 4 (.mv (.c (.bool false)))])
 .ret)
 .skip))
 (.seq (.reg [] [fi 11 (.mv (.t 0)),
  fi 12 (.conv (.int .i64) (.t 11)),
  fi 13 (.bin .rem (.t 12) (.c (.int .i64 5))),
  fi 14 (.bin .add (.c (.int .i64 1)) (.t 13)),
  ei 15 (.call 6 [(.t 14)]),
  fi 5 (.mv (.t 15))])
 (.seq (.seq (.reg [] [fi 6 (.mv (.c (.int .i64 0)))])
 (.blk 0 (.loop l_l15_RaftLogs_2)))
 (.seq (.reg [] [fi 88 (.mv (.t 5)),
  fi 89 (.nilCheck (.t 88)),
  fi 90 (.fieldAddr 11 (.t 89)),
  fi 91 (.load false 1 (.t 90)),
  fi 92 (.un .not (.t 91)),
  fi 4 (.mv (.t 92))])
 .ret)))))
theorem k_l15_RaftLogs : chkFn Try.prog n_l15_RaftLogs ⟨b_l15_RaftLogs, [.tmp 4], 93⟩ = true := by kernel_rfl
abbrev n_l15_RaftSafe : Nat := 3
def l_l15_RaftSafe_0 : Cd := (.seq (.seq (.reg [] [fi 16 (.mv (.t 6)),
  fi 17 (.mv (.t 1)),
  fi 18 (.len .sl (.t 17)),
  fi 19 (.bin .lss (.t 16) (.t 18)),
  fi 20 (.mv (.t 19)),
  .run ⟨(some 21), (some (20, true)), .f (.mv (.t 6))⟩,
  .run ⟨(some 22), (some (20, true)), .f (.bin .lss (.t 21) (.c (.int .i64 400)))⟩,
  fi 23 (.pick (.t 20) (.t 22) (.c (.bool false))),
  fi 24 (.mv (.t 23)),
  .run ⟨(some 25), (some (24, true)), .f (.mv (.t 5))⟩,
  .run ⟨(some 26), (some (24, true)), .f (.nilCheck (.t 25))⟩,
  .run ⟨(some 27), (some (24, true)), .f (.fieldAddr 11 (.t 26))⟩,
  .run ⟨(some 28), (some (24, true)), .f (.load false 1 (.t 27))⟩,
  .run ⟨(some 29), (some (24, true)), .f (.un .not (.t 28))⟩,
  fi 30 (.pick (.t 24) (.t 29) (.c (.bool false)))])
 (.ite (.t 30)
 .skip
 (.exit 0)))
 (.seq (.blk 1 (.reg [] [fi 33 (.mv (.t 5)),
  fi 34 (.mv (.t 1)),
  fi 35 (.mv (.t 6)),
  fi 36 (.indexAddr 6 (.t 34) (.t 35)),
  fi 37 (.load true 6 (.t 36)),
  ei 38 (.call 7 [(.t 33), (.t 37)])]))
 (.reg [] [fi 31 (.mv (.t 6)),
  fi 32 (.bin .add (.t 31) (.c (.int .i64 1))),
  fi 6 (.mv (.t 32))])))
def b_l15_RaftSafe : Cd := (.seq (.reg [] [fi 4 (.mv (.c (.bool false)))])
 (.seq (.seq (.reg [] [ei 7 (.call 5 []),
  fi 8 (.un .not (.t 7)),
  fi 9 (.mv (.t 8)),
  fi 10 (.pick (.t 9) (.c (.bool true)) (.c (.bool false)))])
 (.ite (.t 10)
 (.seq (.reg [] [fi 4 (.mv (.c (.bool false)))])
 .ret)
 .skip))
 (.seq (.reg [] [fi 11 (.mv (.t 0)),
  fi 12 (.conv (.int .i64) (.t 11)),
  fi 13 (.bin .rem (.t 12) (.c (.int .i64 5))),
  fi 14 (.bin .add (.c (.int .i64 1)) (.t 13)),
  ei 15 (.call 6 [(.t 14)]),
  fi 5 (.mv (.t 15))])
 (.seq (.seq (.reg [] [fi 6 (.mv (.c (.int .i64 0)))])
 (.blk 0 (.loop l_l15_RaftSafe_0)))
 (.seq (.reg [] [fi 39 (.mv (.t 5)),
  fi 40 (.nilCheck (.t 39)),
  fi 41 (.fieldAddr 11 (.t 40)),
  fi 42 (.load false 1 (.t 41)),
  fi 43 (.un .not (.t 42)),
  fi 4 (.mv (.t 43))])
 .ret)))))
theorem k_l15_RaftSafe : chkFn Try.prog n_l15_RaftSafe ⟨b_l15_RaftSafe, [.tmp 4], 44⟩ = true := by kernel_rfl
abbrev n_l15_alike : Nat := 8
def k_l15_alike_0 : Cd := (.seq (.reg [] [fi 26 (.mv (.t 0)),
  fi 27 (.mv (.t 5)),
  ei 28 (.call 14 [(.t 26), (.t 27)]),
  fi 25 (.mv (.t 28)),
  fi 29 (.extract (.t 25) 0),
  fi 30 (.extract (.t 25) 1),
  fi 31 (.extract (.t 25) 2),
  fi 7 (.mv (.t 29)),
  fi 8 (.mv (.t 30)),
  fi 9 (.mv (.t 31))])
 (.seq (.reg [] [fi 33 (.mv (.t 1)),
  fi 34 (.mv (.t 5)),
  ei 35 (.call 14 [(.t 33), (.t 34)]),
  fi 32 (.mv (.t 35)),
  fi 36 (.extract (.t 32) 0),
  fi 37 (.extract (.t 32) 1),
  fi 38 (.extract (.t 32) 2),
  fi 10 (.mv (.t 36)),
  fi 11 (.mv (.t 37)),
  fi 12 (.mv (.t 38))])
 (.seq (.seq (.reg [] [fi 39 (.mv (.t 8)),
  fi 40 (.mv (.t 11)),
  fi 41 (.bin .eql (.t 39) (.t 40))])
 (.ite (.t 41)
 (.reg [] [fi 6 (.mv (.c (.bool true)))])
 .skip))
 (.seq (.reg [] [fi 42 (.mv (.t 6)),
  fi 43 (.mv (.t 42)),
  .run ⟨(some 44), (some (43, true)), .f (.mv (.t 8))⟩,
  .run ⟨(some 45), (some (43, true)), .f (.mv (.t 11))⟩,
  .run ⟨(some 46), (some (43, true)), .f (.bin .neq (.t 44) (.t 45))⟩,
  .run ⟨(some 47), (some (43, true)), .f (.mv (.t 46))⟩,
  .run ⟨(some 48), (some (47, false)), .f (.mv (.t 7))⟩,
  .run ⟨(some 49), (some (47, false)), .f (.conv .bytesStr (.t 48))⟩,
  .run ⟨(some 50), (some (47, false)), .f (.mv (.t 10))⟩,
  .run ⟨(some 51), (some (47, false)), .f (.conv .bytesStr (.t 50))⟩,
  .run ⟨(some 52), (some (47, false)), .f (.bin .neq (.t 49) (.t 51))⟩,
  .run ⟨(some 53), (some (43, true)), .f (.pick (.t 47) (.c (.bool true)) (.t 52))⟩,
  fi 54 (.pick (.t 43) (.t 53) (.c (.bool false)))])
 (.ite (.t 54)
 (.seq (.reg [] [fi 4 (.mv (.c (.bool false)))])
 .ret)
 .skip)))))
def l_l15_alike_0 : Cd := (.seq (.seq (.reg [] [fi 21 (.mv (.t 5)),
  fi 22 (.bin .gtr (.t 21) (.c (.int .i64 0)))])
 (.ite (.t 22)
 .skip
 (.exit 0)))
 (.seq (.blk 1 k_l15_alike_0)
 (.reg [] [fi 23 (.mv (.t 5)),
  fi 24 (.bin .sub (.t 23) (.c (.int .i64 1))),
  fi 5 (.mv (.t 24))])))
def b_l15_alike : Cd := (.seq (.reg [] [fi 4 (.mv (.c (.bool false)))])
 (.seq (.reg [] [fi 13 (.mv (.t 0)),
  ei 14 (.call 15 [(.t 13)]),
  fi 5 (.mv (.t 14))])
 (.seq (.seq (.reg [] [fi 15 (.mv (.t 1)),
  ei 16 (.call 15 [(.t 15)]),
  fi 17 (.mv (.t 5)),
  fi 18 (.bin .lss (.t 16) (.t 17))])
 (.ite (.t 18)
 (.reg [] [fi 19 (.mv (.t 1)),
  ei 20 (.call 15 [(.t 19)]),
  fi 5 (.mv (.t 20))])
 .skip))
 (.seq (.reg [] [fi 6 (.mv (.c (.bool false)))])
 (.seq (.blk 0 (.loop l_l15_alike_0))
 (.seq (.reg [] [fi 4 (.mv (.c (.bool true)))])
 .ret))))))
theorem k_l15_alike : chkFn Try.prog n_l15_alike ⟨b_l15_alike, [.tmp 4], 55⟩ = true := by kernel_rfl
abbrev n_l15_awake : Nat := 5
def l_l15_awake_0 : Cd := (.seq (.seq (.reg [] [fi 24 (.mv (.t 5)),
  fi 25 (.bin .lss (.t 24) (.c (.int .i64 20))),
  fi 26 (.mv (.t 25)),
  .run ⟨(some 27), (some (26, true)), .f (.mv (.t 3))⟩,
  .run ⟨(some 28), (some (26, true)), .e (.call 11 [(.t 27)])⟩,
  .run ⟨(some 29), (some (26, true)), .f (.un .not (.t 28))⟩,
  fi 30 (.pick (.t 26) (.t 29) (.c (.bool false)))])
 (.ite (.t 30)
 .skip
 (.exit 0)))
 (.seq (.blk 1 (.seq (.reg [] [fi 33 (.mv (.t 3)),
  fi 34 (.mv (.t 5)),
  fi 35 (.conv (.int .u64) (.t 34)),
  ei 36 (.call 12 [(.t 33), (.t 35)]),
  fi 37 (.bin .neq (.t 36) (.c (.int .i64 0)))])
 (.ite (.t 37)
 (.seq (.reg [] [fi 0 (.mv (.c (.bool false)))])
 .ret)
 .skip)))
 (.reg [] [fi 31 (.mv (.t 5)),
  fi 32 (.bin .add (.t 31) (.c (.int .i64 1))),
  fi 5 (.mv (.t 32))])))
def s_l15_awake_0 : Cd := (.seq (.seq (.reg [] [fi 38 (.mv (.t 3)),
  ei 39 (.buildSlice 1 1 2 [(.int .u8 0)] [(0, 1, (.c (.int .u8 97)))]),
  ei 40 (.bytesSame (.t 39)),
  ei 41 (.call 13 [(.t 38), (.t 40)]),
  fi 42 (.bin .neq (.t 41) (.c (.int .i64 0)))])
 (.ite (.t 42)
 (.seq (.reg [] [fi 0 (.mv (.c (.bool false)))])
 .ret)
 .skip))
 (.seq (.reg [] [fi 44 (.mv (.t 3)),
  fi 45 (.mv (.t 3)),
  ei 46 (.call 15 [(.t 45)]),
  ei 47 (.call 14 [(.t 44), (.t 46)]),
  fi 43 (.mv (.t 47)),
  fi 48 (.extract (.t 43) 0),
  fi 49 (.extract (.t 43) 1),
  fi 50 (.extract (.t 43) 2),
  fi 6 (.mv (.t 48)),
  fi 7 (.mv (.t 49)),
  fi 8 (.mv (.t 50))])
 (.seq (.reg [] [fi 51 (.mv (.t 8)),
  fi 52 (.bin .eql (.t 51) (.c (.int .i64 0))),
  fi 53 (.mv (.t 52)),
  .run ⟨(some 54), (some (53, true)), .f (.mv (.t 6))⟩,
  .run ⟨(some 55), (some (53, true)), .f (.conv .bytesStr (.t 54))⟩,
  .run ⟨(some 56), (some (53, true)), .f (.bin .eql (.t 55) (.c (.str (mkS [97]))))⟩,
  fi 57 (.pick (.t 53) (.t 56) (.c (.bool false))),
  fi 58 (.mv (.t 57)),
  .run ⟨(some 59), (some (58, true)), .f (.mv (.t 3))⟩,
  .run ⟨(some 60), (some (58, true)), .e (.call 16 [(.t 59)])⟩,
  .run ⟨(some 61), (some (58, true)), .f (.mv (.t 3))⟩,
  .run ⟨(some 62), (some (58, true)), .e (.call 15 [(.t 61)])⟩,
  .run ⟨(some 63), (some (58, true)), .f (.bin .eql (.t 60) (.t 62))⟩,
  fi 64 (.pick (.t 58) (.t 63) (.c (.bool false))),
  fi 65 (.mv (.t 64)),
  .run ⟨(some 66), (some (65, true)), .f (.mv (.t 3))⟩,
  .run ⟨(some 67), (some (65, true)), .e (.call 17 [(.t 66)])⟩,
  .run ⟨(some 68), (some (65, true)), .f (.bin .gtr (.t 67) (.c (.int .u64 0)))⟩,
  fi 69 (.pick (.t 65) (.t 68) (.c (.bool false))),
  fi 70 (.mv (.t 69)),
  .run ⟨(some 71), (some (70, true)), .f (.mv (.t 3))⟩,
  .run ⟨(some 72), (some (70, true)), .e (.call 18 [(.t 71)])⟩,
  .run ⟨(some 73), (some (70, true)), .f (.bin .eql (.t 72) (.c (.int .i64 0)))⟩,
  fi 74 (.pick (.t 70) (.t 73) (.c (.bool false))),
  fi 0 (.mv (.t 74))])
 .ret)))
def b_l15_awake : Cd := (.seq (.reg [] [fi 0 (.mv (.c (.bool false)))])
 (.seq (.reg [] [ei 10 (.call 9 [(.c (.int .i64 1048576))]),
  fi 9 (.mv (.t 10)),
  fi 11 (.extract (.t 9) 0),
  fi 12 (.extract (.t 9) 1),
  fi 1 (.mv (.t 11)),
  fi 2 (.mv (.t 12))])
 (.seq (.reg [] [fi 14 (.mv (.t 1)),
  ei 15 (.call 10 [(.t 14), (.c (.int .i64 0)), (.c (.int .i64 1))]),
  fi 13 (.mv (.t 15)),
  fi 16 (.extract (.t 13) 0),
  fi 17 (.extract (.t 13) 1),
  fi 3 (.mv (.t 16)),
  fi 4 (.mv (.t 17))])
 (.seq (.seq (.reg [] [fi 18 (.mv (.t 4)),
  fi 19 (.bin .neq (.t 18) (.c (.int .i64 0))),
  fi 20 (.mv (.t 19)),
  .run ⟨(some 21), (some (20, false)), .f (.mv (.t 3))⟩,
  .run ⟨(some 22), (some (20, false)), .f (.eq false .ptr (.t 21) (.c (.ptr none)))⟩,
  fi 23 (.pick (.t 20) (.c (.bool true)) (.t 22))])
 (.ite (.t 23)
 (.seq (.reg [] [fi 0 (.mv (.c (.bool false)))])
 .ret)
 .skip))
 (.seq (.seq (.reg [] [fi 5 (.mv (.c (.int .i64 0)))])
 (.blk 0 (.loop l_l15_awake_0)))
 s_l15_awake_0)))))
theorem k_l15_awake : chkFn Try.prog n_l15_awake ⟨b_l15_awake, [.tmp 0], 75⟩ = true := by kernel_rfl
abbrev n_l15_begin : Nat := 6
def k_l15_begin_0 : Cd := (.seq (.reg [] [ei 18 (.call 9 [(.c (.int .i64 1048576))]),
  fi 17 (.mv (.t 18)),
  fi 19 (.extract (.t 17) 0),
  fi 20 (.extract (.t 17) 1),
  fi 5 (.mv (.t 19)),
  fi 6 (.mv (.t 20))])
 (.seq (.reg [] [fi 22 (.mv (.t 5)),
  fi 23 (.mv (.t 4)),
  fi 24 (.mv (.t 0)),
  ei 25 (.call 10 [(.t 22), (.t 23), (.t 24)]),
  fi 21 (.mv (.t 25)),
  fi 26 (.extract (.t 21) 0),
  fi 27 (.extract (.t 21) 1),
  fi 7 (.mv (.t 26)),
  fi 8 (.mv (.t 27))])
 (.seq (.reg [] [fi 28 (.mv (.t 3)),
  fi 29 (.mv (.t 3)),
  fi 30 (.nilCheck (.t 29)),
  fi 31 (.fieldAddr 11 (.t 30)),
  fi 32 (.load false 1 (.t 31)),
  fi 33 (.mv (.t 32)),
  .run ⟨(some 34), (some (33, false)), .f (.mv (.t 8))⟩,
  .run ⟨(some 35), (some (33, false)), .f (.bin .neq (.t 34) (.c (.int .i64 0)))⟩,
  fi 36 (.pick (.t 33) (.c (.bool true)) (.t 35)),
  fi 37 (.nilCheck (.t 28)),
  fi 38 (.fieldAddr 11 (.t 37)),
  st (.store 1 (.t 38) (.t 36))])
 (.seq (.reg [] [fi 39 (.mv (.t 3)),
  fi 40 (.mv (.t 3)),
  fi 41 (.nilCheck (.t 40)),
  fi 42 (.fieldAddr 1 (.t 41)),
  fi 43 (.load false 1 (.t 42)),
  fi 44 (.mv (.t 5)),
  ei 45 (.buildSlice 1 1 0 [(.ptr none)] [(0, 1, (.t 44))]),
  ei 46 (.append 1 8 false (.t 43) (.t 45)),
  fi 47 (.nilCheck (.t 39)),
  fi 48 (.fieldAddr 1 (.t 47)),
  st (.store 1 (.t 48) (.t 46))])
 (.seq (.reg [] [fi 49 (.mv (.t 3)),
  fi 50 (.mv (.t 3)),
  fi 51 (.nilCheck (.t 50)),
  fi 52 (.fieldAddr 2 (.t 51)),
  fi 53 (.load false 1 (.t 52)),
  fi 54 (.mv (.t 7)),
  ei 55 (.buildSlice 1 1 0 [(.ptr none)] [(0, 1, (.t 54))]),
  ei 56 (.append 1 8 true (.t 53) (.t 55)),
  fi 57 (.nilCheck (.t 49)),
  fi 58 (.fieldAddr 2 (.t 57)),
  st (.store 1 (.t 58) (.t 56))])
 (.reg [] [fi 59 (.mv (.t 3)),
  fi 60 (.mv (.t 3)),
  fi 61 (.nilCheck (.t 60)),
  fi 62 (.fieldAddr 9 (.t 61)),
  fi 63 (.load false 1 (.t 62)),
  ei 64 (.buildSlice 1 1 0 [(.int .u64 0)] [(0, 1, (.c (.int .u64 0)))]),
  ei 65 (.append 1 8 true (.t 63) (.t 64)),
  fi 66 (.nilCheck (.t 59)),
  fi 67 (.fieldAddr 9 (.t 66)),
  st (.store 1 (.t 67) (.t 65))]))))))
def l_l15_begin_0 : Cd := (.seq (.seq (.reg [] [fi 12 (.mv (.t 4)),
  fi 13 (.mv (.t 0)),
  fi 14 (.bin .lss (.t 12) (.t 13))])
 (.ite (.t 14)
 .skip
 (.exit 0)))
 (.seq (.blk 1 k_l15_begin_0)
 (.reg [] [fi 15 (.mv (.t 4)),
  fi 16 (.bin .add (.t 15) (.c (.int .i64 1))),
  fi 4 (.mv (.t 16))])))
def b_l15_begin : Cd := (.seq (.reg [] [fi 2 (.mv (.c (.ptr none)))])
 (.seq (.reg [] [fi 9 (.mv (.t 0)),
  fi 10 (.build [(.int .i64 0), (.sl [] 0 1 .nil), (.sl [] 0 1 .nil), (.sl [] 0 3 .nil), (.sl [] 0 1 .nil), (.sl [] 0 1 .nil), (.sl [] 0 1 .nil), (.sl [] 0 1 .nil), (.sl [] 0 1 .nil), (.sl [] 0 1 .nil), (.sl [] 0 1 .nil), (.bool false)] [(0, 1, (.t 9))]),
  ei 11 (.box (.t 10)),
  fi 3 (.mv (.t 11))])
 (.seq (.seq (.reg [] [fi 4 (.mv (.c (.int .i64 0)))])
 (.blk 0 (.loop l_l15_begin_0)))
 (.seq (.reg [] [fi 68 (.mv (.t 3)),
  fi 2 (.mv (.t 68))])
 .ret))))
theorem k_l15_begin : chkFn Try.prog n_l15_begin ⟨b_l15_begin, [.tmp 2], 69⟩ = true := by kernel_rfl
abbrev n_l15_world_act : Nat := 7
def i_l15_world_act_0 : Cd := (.reg [0, 1, 2, 3, 4, 5, 6, 7, 8, 9, 10] [fi 47 (.mv (.t 0)),
  fi 48 (.fieldAddr 2 (.t 3)),
  fi 49 (.load false 1 (.t 48)),
  fi 50 (.conv (.int .i64) (.t 49)),
  fi 51 (.mv (.t 0)),
  fi 52 (.nilCheck (.t 51)),
  fi 53 (.fieldAddr 3 (.t 52)),
  fi 54 (.load false 1 (.t 53)),
  fi 55 (.len .sl (.t 54)),
  fi 56 (.bin .rem (.t 50) (.t 55)),
  ei 57 (.call 19 [(.t 47), (.t 56)])])
def i_l15_world_act_1 : Cd := (.seq (.reg [0, 1, 2, 3, 4, 5, 6, 7, 8, 9] [fi 66 (.fieldAddr 2 (.t 3)),
  fi 67 (.load false 1 (.t 66)),
  fi 68 (.conv (.int .i64) (.t 67)),
  fi 69 (.mv (.t 0)),
  fi 70 (.nilCheck (.t 69)),
  fi 71 (.fieldAddr 3 (.t 70)),
  fi 72 (.load false 1 (.t 71)),
  fi 73 (.len .sl (.t 72)),
  fi 74 (.bin .rem (.t 68) (.t 73)),
  fi 6 (.mv (.t 74))])
 (.seq (.reg [] [fi 7 (.mv (.c (.sl [] 0 3 .nil)))])
 (.seq (.reg [] [fi 75 (.mv (.t 7)),
  fi 76 (.mv (.t 0)),
  fi 77 (.nilCheck (.t 76)),
  fi 78 (.fieldAddr 3 (.t 77)),
  fi 79 (.load false 1 (.t 78)),
  fi 80 (.mv (.t 6)),
  fi 81 (.slice 3 (.t 79) none (some (.t 80)) none),
  ei 82 (.append 3 40 false (.t 75) (.t 81)),
  fi 7 (.mv (.t 82))])
 (.reg [] [fi 83 (.mv (.t 0)),
  fi 84 (.mv (.t 7)),
  fi 85 (.mv (.t 0)),
  fi 86 (.nilCheck (.t 85)),
  fi 87 (.fieldAddr 3 (.t 86)),
  fi 88 (.load false 1 (.t 87)),
  fi 89 (.mv (.t 6)),
  fi 90 (.bin .add (.t 89) (.c (.int .i64 1))),
  fi 91 (.slice 3 (.t 88) (some (.t 90)) none none),
  ei 92 (.append 3 40 false (.t 84) (.t 91)),
  fi 93 (.nilCheck (.t 83)),
  fi 94 (.fieldAddr 3 (.t 93)),
  st (.store 1 (.t 94) (.t 92))]))))
def i_l15_world_act_2 : Cd := (.reg [0, 1, 2, 3, 4, 5, 6, 7, 8, 9, 10, 11, 12, 13, 14, 15, 16, 17, 18, 19, 20, 4, 21, 22, 23, 24] [fi 111 (.mv (.t 0)),
  fi 112 (.mv (.t 0)),
  fi 113 (.nilCheck (.t 112)),
  fi 114 (.fieldAddr 3 (.t 113)),
  fi 115 (.load false 1 (.t 114)),
  fi 116 (.mv (.t 0)),
  fi 117 (.nilCheck (.t 116)),
  fi 118 (.fieldAddr 3 (.t 117)),
  fi 119 (.load false 1 (.t 118)),
  fi 120 (.fieldAddr 2 (.t 3)),
  fi 121 (.load false 1 (.t 120)),
  fi 122 (.conv (.int .i64) (.t 121)),
  fi 123 (.mv (.t 0)),
  fi 124 (.nilCheck (.t 123)),
  fi 125 (.fieldAddr 3 (.t 124)),
  fi 126 (.load false 1 (.t 125)),
  fi 127 (.len .sl (.t 126)),
  fi 128 (.bin .rem (.t 122) (.t 127)),
  fi 129 (.indexAddr 3 (.t 119) (.t 128)),
  fi 130 (.load true 3 (.t 129)),
  ei 131 (.buildSlice 1 3 0 [(.int .i64 0), (.int .i64 0), (.sl [] 0 1 .nil)] [(0, 3, (.t 130))]),
  .chk 115 none (.load false 1 (.t 114)),
  ei 132 (.append 3 40 false (.t 115) (.t 131)),
  fi 133 (.nilCheck (.t 111)),
  fi 134 (.fieldAddr 3 (.t 133)),
  st (.store 1 (.t 134) (.t 132))])
def i_l15_world_act_3 : Cd := (.seq (.reg [0, 1, 2, 3, 4, 5, 6, 7, 8, 4, 9, 10, 11, 12] [fi 145 (.mv (.t 0)),
  fi 146 (.mv (.t 0)),
  fi 147 (.nilCheck (.t 146)),
  fi 148 (.fieldAddr 4 (.t 147)),
  fi 149 (.load false 1 (.t 148)),
  fi 150 (.fieldAddr 4 (.t 3)),
  fi 151 (.load false 1 (.t 150)),
  fi 152 (.conv .bytesStr (.t 151)),
  ei 153 (.buildSlice 1 1 0 [(.str (mkS []))] [(0, 1, (.t 152))]),
  .chk 149 none (.load false 1 (.t 148)),
  ei 154 (.append 1 16 false (.t 149) (.t 153)),
  fi 155 (.nilCheck (.t 145)),
  fi 156 (.fieldAddr 4 (.t 155)),
  st (.store 1 (.t 156) (.t 154))])
 (.seq (.reg [] [fi 157 (.mv (.t 5)),
  ei 158 (.call 11 [(.t 157)]),
  fi 8 (.mv (.t 158))])
 (.seq (.reg [] [fi 159 (.mv (.t 5)),
  fi 160 (.fieldAddr 4 (.t 3)),
  fi 161 (.load false 1 (.t 160)),
  ei 162 (.call 13 [(.t 159), (.t 161)]),
  fi 9 (.mv (.t 162))])
 (.seq (.reg [] [fi 163 (.mv (.t 8)),
  fi 164 (.mv (.t 9)),
  fi 165 (.bin .eql (.t 164) (.c (.int .i64 0))),
  fi 166 (.eq true .bool (.t 163) (.t 165)),
  fi 167 (.mv (.t 166)),
  .run ⟨(some 168), (some (167, true)), .f (.mv (.t 9))⟩,
  .run ⟨(some 169), (some (167, true)), .f (.bin .neq (.t 168) (.c (.int .i64 10)))⟩,
  fi 170 (.pick (.t 167) (.t 169) (.c (.bool false)))])
 (.ite (.t 170)
 (.reg [] [fi 171 (.mv (.t 0)),
  fi 172 (.nilCheck (.t 171)),
  fi 173 (.fieldAddr 11 (.t 172)),
  st (.store 1 (.t 173) (.c (.bool true)))])
 .skip)))))
def r_l15_world_act_0 : Cd := (.reg [] [fi 226 (.mv (.t 0)),
  fi 227 (.nilCheck (.t 226)),
  fi 228 (.fieldAddr 2 (.t 227)),
  fi 229 (.load false 1 (.t 228)),
  fi 230 (.mv (.t 4)),
  fi 231 (.mv (.t 10)),
  fi 232 (.indexAddr 1 (.t 229) (.t 230)),
  st (.store 1 (.t 232) (.t 231))])
def i_l15_world_act_4 : Cd := (.seq (.reg [0, 1, 2, 3, 4, 5, 6, 7, 8, 9] [fi 186 (.mv (.t 0)),
  fi 187 (.nilCheck (.t 186)),
  fi 188 (.fieldAddr 1 (.t 187)),
  fi 189 (.load false 1 (.t 188)),
  fi 190 (.mv (.t 4)),
  fi 191 (.indexAddr 1 (.t 189) (.t 190)),
  fi 192 (.load false 1 (.t 191)),
  fi 193 (.fieldAddr 5 (.t 3)),
  fi 194 (.load false 1 (.t 193)),
  ei 195 (.call 20 [(.t 192), (.t 194)])])
 (.seq (.reg [0, 1, 2, 3, 4, 5, 6, 7, 8, 9, 10, 11, 12, 13, 14, 15, 16, 17] [fi 197 (.mv (.t 0)),
  fi 198 (.nilCheck (.t 197)),
  fi 199 (.fieldAddr 1 (.t 198)),
  fi 200 (.load false 1 (.t 199)),
  fi 201 (.mv (.t 4)),
  fi 202 (.indexAddr 1 (.t 200) (.t 201)),
  fi 203 (.load false 1 (.t 202)),
  fi 204 (.mv (.t 4)),
  fi 205 (.mv (.t 0)),
  fi 206 (.nilCheck (.t 205)),
  fi 207 (.fieldAddr 0 (.t 206)),
  fi 208 (.load false 1 (.t 207)),
  ei 209 (.call 10 [(.t 203), (.t 204), (.t 208)]),
  fi 196 (.mv (.t 209)),
  fi 210 (.extract (.t 196) 0),
  fi 211 (.extract (.t 196) 1),
  fi 10 (.mv (.t 210)),
  fi 11 (.mv (.t 211))])
 (.seq (.seq (.reg [] [fi 212 (.mv (.t 11)),
  fi 213 (.bin .neq (.t 212) (.c (.int .i64 0))),
  fi 214 (.mv (.t 213)),
  .run ⟨(some 215), (some (214, false)), .f (.mv (.t 10))⟩,
  .run ⟨(some 216), (some (214, false)), .e (.call 16 [(.t 215)])⟩,
  .run ⟨(some 217), (some (214, false)), .f (.bin .neq (.t 216) (.c (.int .i64 0)))⟩,
  fi 218 (.pick (.t 214) (.c (.bool true)) (.t 217)),
  fi 219 (.mv (.t 218)),
  .run ⟨(some 220), (some (219, false)), .f (.mv (.t 10))⟩,
  .run ⟨(some 221), (some (219, false)), .e (.call 11 [(.t 220)])⟩,
  fi 222 (.pick (.t 219) (.c (.bool true)) (.t 221))])
 (.ite (.t 222)
 (.seq (.reg [] [fi 223 (.mv (.t 0)),
  fi 224 (.nilCheck (.t 223)),
  fi 225 (.fieldAddr 11 (.t 224)),
  st (.store 1 (.t 225) (.c (.bool true)))])
 .ret)
 .skip))
 r_l15_world_act_0)))
def i_l15_world_act_5 : Cd := (.seq (.reg [0, 1, 2, 3, 4, 5, 6, 7, 8, 9, 10, 11] [fi 235 (.mv (.t 0)),
  fi 236 (.nilCheck (.t 235)),
  fi 237 (.fieldAddr 1 (.t 236)),
  fi 238 (.load false 1 (.t 237)),
  fi 239 (.mv (.t 4)),
  fi 240 (.indexAddr 1 (.t 238) (.t 239)),
  fi 241 (.load false 1 (.t 240)),
  fi 242 (.fieldAddr 2 (.t 3)),
  fi 243 (.load false 1 (.t 242)),
  fi 244 (.conv (.int .i64) (.t 243)),
  fi 245 (.bin .rem (.t 244) (.c (.int .i64 6))),
  ei 246 (.call 21 [(.t 241), (.t 245)])])
 .ret)
def i_l15_world_act_6 : Cd := (.seq (.reg [] [fi 137 (.mv (.t 5)),
  fi 138 (.eq true .ptr (.t 137) (.c (.ptr none))),
  fi 139 (.mv (.t 138)),
  .run ⟨(some 140), (some (139, true)), .f (.fieldAddr 4 (.t 3))⟩,
  .run ⟨(some 141), (some (139, true)), .f (.load false 1 (.t 140))⟩,
  .run ⟨(some 142), (some (139, true)), .f (.len .sl (.t 141))⟩,
  .run ⟨(some 143), (some (139, true)), .f (.bin .leq (.t 142) (.c (.int .i64 200)))⟩,
  fi 144 (.pick (.t 139) (.t 143) (.c (.bool false)))])
 (.ite (.t 144)
 i_l15_world_act_3
 .skip))
def i_l15_world_act_7 : Cd := (.seq (.reg [] [fi 175 (.bin .eql (.t 29) (.c (.int .u8 6))),
  fi 174 (.mv (.t 175))])
 (.ite (.t 174)
 (.reg [] [fi 176 (.mv (.t 0)),
  fi 177 (.nilCheck (.t 176)),
  fi 178 (.fieldAddr 2 (.t 177)),
  fi 179 (.load false 1 (.t 178)),
  fi 180 (.mv (.t 4)),
  fi 181 (.indexAddr 1 (.t 179) (.t 180)),
  st (.store 1 (.t 181) (.c (.ptr none)))])
 (.seq (.reg [] [fi 183 (.bin .eql (.t 29) (.c (.int .u8 7))),
  fi 182 (.mv (.t 183))])
 (.ite (.t 182)
 (.seq (.reg [] [fi 184 (.mv (.t 5)),
  fi 185 (.eq false .ptr (.t 184) (.c (.ptr none)))])
 (.ite (.t 185)
 i_l15_world_act_4
 .skip))
 (.seq (.reg [] [fi 234 (.bin .eql (.t 29) (.c (.int .u8 8))),
  fi 233 (.mv (.t 234))])
 (.ite (.t 233)
 i_l15_world_act_5
 .skip))))))
def i_l15_world_act_8 : Cd := (.seq (.seq (.reg [] [fi 97 (.mv (.t 0)),
  fi 98 (.nilCheck (.t 97)),
  fi 99 (.fieldAddr 3 (.t 98)),
  fi 100 (.load false 1 (.t 99)),
  fi 101 (.len .sl (.t 100)),
  fi 102 (.bin .gtr (.t 101) (.c (.int .i64 0))),
  fi 103 (.mv (.t 102)),
  .run ⟨(some 104), (some (103, true)), .f (.mv (.t 0))⟩,
  .run ⟨(some 105), (some (103, true)), .f (.nilCheck (.t 104))⟩,
  .run ⟨(some 106), (some (103, true)), .f (.fieldAddr 3 (.t 105))⟩,
  .run ⟨(some 107), (some (103, true)), .f (.load false 1 (.t 106))⟩,
  .run ⟨(some 108), (some (103, true)), .f (.len .sl (.t 107))⟩,
  .run ⟨(some 109), (some (103, true)), .f (.bin .lss (.t 108) (.c (.int .i64 300)))⟩,
  fi 110 (.pick (.t 103) (.t 109) (.c (.bool false)))])
 (.ite (.t 110)
 i_l15_world_act_2
 .skip))
 .ret)
def i_l15_world_act_9 : Cd := (.seq (.reg [] [fi 59 (.bin .eql (.t 29) (.c (.int .u8 3))),
  fi 58 (.mv (.t 59))])
 (.ite (.t 58)
 (.seq (.seq (.reg [] [fi 60 (.mv (.t 0)),
  fi 61 (.nilCheck (.t 60)),
  fi 62 (.fieldAddr 3 (.t 61)),
  fi 63 (.load false 1 (.t 62)),
  fi 64 (.len .sl (.t 63)),
  fi 65 (.bin .gtr (.t 64) (.c (.int .i64 0)))])
 (.ite (.t 65)
 i_l15_world_act_1
 .skip))
 .ret)
 (.seq (.reg [] [fi 96 (.bin .eql (.t 29) (.c (.int .u8 4))),
  fi 95 (.mv (.t 96))])
 (.ite (.t 95)
 i_l15_world_act_8
 (.seq (.reg [] [fi 136 (.bin .eql (.t 29) (.c (.int .u8 5))),
  fi 135 (.mv (.t 136))])
 (.ite (.t 135)
 i_l15_world_act_6
 i_l15_world_act_7))))))
def r_l15_world_act_1 : Cd := (.ite (.t 38)
 (.seq (.seq (.reg [] [fi 41 (.mv (.t 0)),
  fi 42 (.nilCheck (.t 41)),
  fi 43 (.fieldAddr 3 (.t 42)),
  fi 44 (.load false 1 (.t 43)),
  fi 45 (.len .sl (.t 44)),
  fi 46 (.bin .gtr (.t 45) (.c (.int .i64 0)))])
 (.ite (.t 46)
 i_l15_world_act_0
 .skip))
 .ret)
 i_l15_world_act_9)
def b_l15_world_act : Cd := (.seq (.reg [] [ei 3 (.box (.t 1))])
 (.seq (.reg [0, 1, 2, 3, 4, 5, 6, 7, 8] [fi 12 (.fieldAddr 1 (.t 3)),
  fi 13 (.load false 1 (.t 12)),
  fi 14 (.conv (.int .i64) (.t 13)),
  fi 15 (.mv (.t 0)),
  fi 16 (.nilCheck (.t 15)),
  fi 17 (.fieldAddr 0 (.t 16)),
  fi 18 (.load false 1 (.t 17)),
  fi 19 (.bin .rem (.t 14) (.t 18)),
  fi 4 (.mv (.t 19))])
 (.seq (.reg [] [fi 20 (.mv (.t 0)),
  fi 21 (.nilCheck (.t 20)),
  fi 22 (.fieldAddr 2 (.t 21)),
  fi 23 (.load false 1 (.t 22)),
  fi 24 (.mv (.t 4)),
  fi 25 (.indexAddr 1 (.t 23) (.t 24)),
  fi 26 (.load false 1 (.t 25)),
  fi 5 (.mv (.t 26))])
 (.seq (.seq (.reg [] [fi 27 (.fieldAddr 0 (.t 3)),
  fi 28 (.load false 1 (.t 27)),
  fi 29 (.bin .rem (.t 28) (.c (.int .u8 9)))])
 (.blk 0 (.seq (.reg [] [fi 31 (.bin .eql (.t 29) (.c (.int .u8 0))),
  fi 30 (.mv (.t 31))])
 (.ite (.t 30)
 (.seq (.reg [] [fi 32 (.mv (.t 5)),
  fi 33 (.eq true .ptr (.t 32) (.c (.ptr none)))])
 (.ite (.t 33)
 (.reg [] [fi 34 (.mv (.t 5)),
  fi 35 (.fieldAddr 3 (.t 3)),
  fi 36 (.load false 1 (.t 35)),
  ei 37 (.call 12 [(.t 34), (.t 36)])])
 .skip))
 (.seq (.seq (.reg [] [fi 39 (.bin .eql (.t 29) (.c (.int .u8 1))),
  fi 38 (.mv (.t 39))])
 (.ite (.t 38)
 .skip
 (.reg [] [fi 40 (.bin .eql (.t 29) (.c (.int .u8 2))),
  fi 38 (.mv (.t 40))])))
 r_l15_world_act_1)))))
 (.reg [] [fi 247 (.mv (.t 0)),
  fi 248 (.mv (.t 4)),
  ei 249 (.call 22 [(.t 247), (.t 248)])])))))
theorem k_l15_world_act : chkFn Try.prog n_l15_world_act ⟨b_l15_world_act, [], 250⟩ = true := by kernel_rfl
abbrev n_l15_world_hand : Nat := 19
def r_l15_world_hand_0 : Cd := (.seq (.reg [] [fi 81 (.mv (.t 6)),
  fi 82 (.fieldAddr 0 (.t 4)),
  fi 83 (.load false 1 (.t 82)),
  fi 84 (.fieldAddr 2 (.t 4)),
  fi 85 (.load false 1 (.t 84)),
  ei 86 (.call 36 [(.t 81), (.t 83), (.t 85)]),
  fi 7 (.mv (.t 86))])
 (.seq (.seq (.reg [] [fi 87 (.mv (.t 7)),
  fi 88 (.bin .neq (.t 87) (.c (.int .i64 0))),
  fi 89 (.mv (.t 88)),
  .run ⟨(some 90), (some (89, true)), .f (.mv (.t 7))⟩,
  .run ⟨(some 91), (some (89, true)), .f (.bin .neq (.t 90) (.c (.int .i64 10)))⟩,
  fi 92 (.pick (.t 89) (.t 91) (.c (.bool false)))])
 (.ite (.t 92)
 (.reg [] [fi 93 (.mv (.t 0)),
  fi 94 (.nilCheck (.t 93)),
  fi 95 (.fieldAddr 11 (.t 94)),
  st (.store 1 (.t 95) (.c (.bool true)))])
 .skip))
 (.reg [] [fi 96 (.mv (.t 0)),
  fi 97 (.fieldAddr 1 (.t 4)),
  fi 98 (.load false 1 (.t 97)),
  ei 99 (.call 22 [(.t 96), (.t 98)])])))
def r_l15_world_hand_1 : Cd := (.seq (.reg [0, 1, 2, 3, 4, 5, 6, 7, 8] [fi 71 (.mv (.t 0)),
  fi 72 (.nilCheck (.t 71)),
  fi 73 (.fieldAddr 2 (.t 72)),
  fi 74 (.load false 1 (.t 73)),
  fi 75 (.fieldAddr 1 (.t 4)),
  fi 76 (.load false 1 (.t 75)),
  fi 77 (.indexAddr 1 (.t 74) (.t 76)),
  fi 78 (.load false 1 (.t 77)),
  fi 6 (.mv (.t 78))])
 (.seq (.seq (.reg [] [fi 79 (.mv (.t 6)),
  fi 80 (.eq false .ptr (.t 79) (.c (.ptr none)))])
 (.ite (.t 80)
 .ret
 .skip))
 r_l15_world_hand_0))
def b_l15_world_hand : Cd := (.seq (.reg [] [fi 8 (.mv (.t 0)),
  fi 9 (.nilCheck (.t 8)),
  fi 10 (.fieldAddr 3 (.t 9)),
  fi 11 (.load false 1 (.t 10)),
  fi 12 (.mv (.t 1)),
  fi 13 (.indexAddr 3 (.t 11) (.t 12)),
  fi 14 (.load true 3 (.t 13)),
  ei 4 (.alloc [(.int .i64 0), (.int .i64 0), (.sl [] 0 1 .nil)]),
  st (.store 3 (.t 4) (.t 14))])
 (.seq (.reg [] [fi 5 (.mv (.c (.sl [] 0 3 .nil)))])
 (.seq (.reg [] [fi 15 (.mv (.t 5)),
  fi 16 (.mv (.t 0)),
  fi 17 (.nilCheck (.t 16)),
  fi 18 (.fieldAddr 3 (.t 17)),
  fi 19 (.load false 1 (.t 18)),
  fi 20 (.mv (.t 1)),
  fi 21 (.slice 3 (.t 19) none (some (.t 20)) none),
  ei 22 (.append 3 40 false (.t 15) (.t 21)),
  fi 5 (.mv (.t 22))])
 (.seq (.reg [] [fi 23 (.mv (.t 0)),
  fi 24 (.mv (.t 5)),
  fi 25 (.mv (.t 0)),
  fi 26 (.nilCheck (.t 25)),
  fi 27 (.fieldAddr 3 (.t 26)),
  fi 28 (.load false 1 (.t 27)),
  fi 29 (.mv (.t 1)),
  fi 30 (.bin .add (.t 29) (.c (.int .i64 1))),
  fi 31 (.slice 3 (.t 28) (some (.t 30)) none none),
  ei 32 (.append 3 40 false (.t 24) (.t 31)),
  fi 33 (.nilCheck (.t 23)),
  fi 34 (.fieldAddr 3 (.t 33)),
  st (.store 1 (.t 34) (.t 32))])
 (.seq (.seq (.reg [0, 1, 2, 3, 4, 5, 6, 7, 8, 9, 10, 11, 12, 13, 14, 15, 16, 17, 18, 19, 20, 21, 22, 23, 24, 25, 26, 27, 28, 29, 30, 31, 32] [fi 35 (.fieldAddr 1 (.t 4)),
  fi 36 (.load false 1 (.t 35)),
  fi 37 (.bin .lss (.t 36) (.c (.int .i64 0))),
  fi 38 (.mv (.t 37)),
  .run ⟨(some 39), (some (38, false)), .f (.fieldAddr 1 (.t 4))⟩,
  .run ⟨(some 40), (some (38, false)), .f (.load false 1 (.t 39))⟩,
  .run ⟨(some 41), (some (38, false)), .f (.mv (.t 0))⟩,
  .run ⟨(some 42), (some (38, false)), .f (.nilCheck (.t 41))⟩,
  .run ⟨(some 43), (some (38, false)), .f (.fieldAddr 0 (.t 42))⟩,
  .run ⟨(some 44), (some (38, false)), .f (.load false 1 (.t 43))⟩,
  .run ⟨(some 45), (some (38, false)), .f (.bin .geq (.t 40) (.t 44))⟩,
  fi 46 (.pick (.t 38) (.c (.bool true)) (.t 45)),
  fi 47 (.mv (.t 46)),
  .run ⟨(some 48), (some (47, false)), .f (.fieldAddr 0 (.t 4))⟩,
  .run ⟨(some 49), (some (47, false)), .f (.load false 1 (.t 48))⟩,
  .run ⟨(some 50), (some (47, false)), .f (.bin .lss (.t 49) (.c (.int .i64 0)))⟩,
  fi 51 (.pick (.t 47) (.c (.bool true)) (.t 50)),
  fi 52 (.mv (.t 51)),
  .run ⟨(some 53), (some (52, false)), .f (.fieldAddr 0 (.t 4))⟩,
  .run ⟨(some 54), (some (52, false)), .f (.load false 1 (.t 53))⟩,
  .run ⟨(some 55), (some (52, false)), .f (.mv (.t 0))⟩,
  .run ⟨(some 56), (some (52, false)), .f (.nilCheck (.t 55))⟩,
  .run ⟨(some 57), (some (52, false)), .f (.fieldAddr 0 (.t 56))⟩,
  .run ⟨(some 58), (some (52, false)), .f (.load false 1 (.t 57))⟩,
  .run ⟨(some 59), (some (52, false)), .f (.bin .geq (.t 54) (.t 58))⟩,
  fi 60 (.pick (.t 52) (.c (.bool true)) (.t 59)),
  fi 61 (.mv (.t 60)),
  .run ⟨(some 62), (some (61, false)), .f (.fieldAddr 1 (.t 4))⟩,
  .run ⟨(some 63), (some (61, false)), .f (.load false 1 (.t 62))⟩,
  .run ⟨(some 64), (some (61, false)), .f (.fieldAddr 0 (.t 4))⟩,
  .run ⟨(some 65), (some (61, false)), .f (.load false 1 (.t 64))⟩,
  .run ⟨(some 66), (some (61, false)), .f (.bin .eql (.t 63) (.t 65))⟩,
  fi 67 (.pick (.t 61) (.c (.bool true)) (.t 66))])
 (.ite (.t 67)
 (.seq (.reg [] [fi 68 (.mv (.t 0)),
  fi 69 (.nilCheck (.t 68)),
  fi 70 (.fieldAddr 11 (.t 69)),
  st (.store 1 (.t 70) (.c (.bool true)))])
 .ret)
 .skip))
 r_l15_world_hand_1)))))
theorem k_l15_world_hand : chkFn Try.prog n_l15_world_hand ⟨b_l15_world_hand, [], 100⟩ = true := by kernel_rfl
abbrev n_l15_world_known : Nat := 40
def l_l15_world_known_0 : Cd := (.seq (.seq (.reg [] [fi 8 (.mv (.t 5)),
  fi 9 (.mv (.t 0)),
  fi 10 (.nilCheck (.t 9)),
  fi 11 (.fieldAddr 4 (.t 10)),
  fi 12 (.load false 1 (.t 11)),
  fi 13 (.len .sl (.t 12)),
  fi 14 (.bin .lss (.t 8) (.t 13))])
 (.ite (.t 14)
 .skip
 (.exit 0)))
 (.seq (.blk 1 (.seq (.reg [] [fi 17 (.mv (.t 0)),
  fi 18 (.nilCheck (.t 17)),
  fi 19 (.fieldAddr 4 (.t 18)),
  fi 20 (.load false 1 (.t 19)),
  fi 21 (.mv (.t 5)),
  fi 22 (.indexAddr 1 (.t 20) (.t 21)),
  fi 23 (.load false 1 (.t 22)),
  fi 24 (.mv (.t 1)),
  fi 25 (.bin .eql (.t 23) (.t 24))])
 (.ite (.t 25)
 (.seq (.reg [] [fi 4 (.mv (.c (.bool true)))])
 .ret)
 .skip)))
 (.reg [] [fi 15 (.mv (.t 5)),
  fi 16 (.bin .add (.t 15) (.c (.int .i64 1))),
  fi 5 (.mv (.t 16))])))
def b_l15_world_known : Cd := (.seq (.reg [] [fi 4 (.mv (.c (.bool false)))])
 (.seq (.seq (.reg [] [fi 6 (.mv (.t 1)),
  fi 7 (.bin .eql (.t 6) (.c (.str (mkS []))))])
 (.ite (.t 7)
 (.seq (.reg [] [fi 4 (.mv (.c (.bool true)))])
 .ret)
 .skip))
 (.seq (.seq (.reg [] [fi 5 (.mv (.c (.int .i64 0)))])
 (.blk 0 (.loop l_l15_world_known_0)))
 (.seq (.reg [] [fi 4 (.mv (.c (.bool false)))])
 .ret))))
theorem k_l15_world_known : chkFn Try.prog n_l15_world_known ⟨b_l15_world_known, [.tmp 4], 26⟩ = true := by kernel_rfl
abbrev n_l15_world_led : Nat := 41
def k_l15_world_led_0 : Cd := (.seq (.reg [0, 1, 2, 3, 4, 5, 6, 7, 8, 3, 6, 9, 10, 11, 12, 13, 14, 15, 16, 17, 18, 19, 20] [fi 20 (.mv (.t 0)),
  fi 21 (.nilCheck (.t 20)),
  fi 22 (.fieldAddr 8 (.t 21)),
  fi 23 (.load false 1 (.t 22)),
  fi 24 (.mv (.t 6)),
  fi 25 (.indexAddr 1 (.t 23) (.t 24)),
  fi 26 (.load false 1 (.t 25)),
  fi 27 (.mv (.t 2)),
  ei 28 (.call 17 [(.t 27)]),
  .chk 23 none (.load false 1 (.t 22)),
  .chk 26 none (.load false 1 (.t 25)),
  fi 29 (.bin .eql (.t 26) (.t 28)),
  fi 30 (.mv (.t 29)),
  .run ⟨(some 31), (some (30, true)), .f (.mv (.t 0))⟩,
  .run ⟨(some 32), (some (30, true)), .f (.nilCheck (.t 31))⟩,
  .run ⟨(some 33), (some (30, true)), .f (.fieldAddr 7 (.t 32))⟩,
  .run ⟨(some 34), (some (30, true)), .f (.load false 1 (.t 33))⟩,
  .run ⟨(some 35), (some (30, true)), .f (.mv (.t 6))⟩,
  .run ⟨(some 36), (some (30, true)), .f (.indexAddr 1 (.t 34) (.t 35))⟩,
  .run ⟨(some 37), (some (30, true)), .f (.load false 1 (.t 36))⟩,
  .run ⟨(some 38), (some (30, true)), .f (.mv (.t 1))⟩,
  .run ⟨(some 39), (some (30, true)), .f (.bin .neq (.t 37) (.t 38))⟩,
  fi 40 (.pick (.t 30) (.t 39) (.c (.bool false)))])
 (.ite (.t 40)
 (.reg [] [fi 41 (.mv (.t 0)),
  fi 42 (.nilCheck (.t 41)),
  fi 43 (.fieldAddr 11 (.t 42)),
  st (.store 1 (.t 43) (.c (.bool true)))])
 .skip))
def l_l15_world_led_0 : Cd := (.seq (.seq (.reg [] [fi 11 (.mv (.t 6)),
  fi 12 (.mv (.t 0)),
  fi 13 (.nilCheck (.t 12)),
  fi 14 (.fieldAddr 7 (.t 13)),
  fi 15 (.load false 1 (.t 14)),
  fi 16 (.len .sl (.t 15)),
  fi 17 (.bin .lss (.t 11) (.t 16))])
 (.ite (.t 17)
 .skip
 (.exit 0)))
 (.seq (.blk 1 k_l15_world_led_0)
 (.reg [] [fi 18 (.mv (.t 6)),
  fi 19 (.bin .add (.t 18) (.c (.int .i64 1))),
  fi 6 (.mv (.t 19))])))
def i_l15_world_led_0 : Cd := (.seq (.reg [] [fi 83 (.mv (.t 0)),
  fi 84 (.mv (.t 0)),
  fi 85 (.nilCheck (.t 84)),
  fi 86 (.fieldAddr 7 (.t 85)),
  fi 87 (.load false 1 (.t 86)),
  fi 88 (.mv (.t 1)),
  ei 89 (.buildSlice 1 1 0 [(.int .i64 0)] [(0, 1, (.t 88))]),
  ei 90 (.append 1 8 false (.t 87) (.t 89)),
  fi 91 (.nilCheck (.t 83)),
  fi 92 (.fieldAddr 7 (.t 91)),
  st (.store 1 (.t 92) (.t 90))])
 (.reg [0, 1, 2, 3, 4, 5, 6, 4, 7, 4, 8, 9, 10, 11] [fi 93 (.mv (.t 0)),
  fi 94 (.mv (.t 0)),
  fi 95 (.nilCheck (.t 94)),
  fi 96 (.fieldAddr 8 (.t 95)),
  fi 97 (.load false 1 (.t 96)),
  fi 98 (.mv (.t 2)),
  ei 99 (.call 17 [(.t 98)]),
  .chk 97 none (.load false 1 (.t 96)),
  ei 100 (.buildSlice 1 1 0 [(.int .u64 0)] [(0, 1, (.t 99))]),
  .chk 97 none (.load false 1 (.t 96)),
  ei 101 (.append 1 8 false (.t 97) (.t 100)),
  fi 102 (.nilCheck (.t 93)),
  fi 103 (.fieldAddr 8 (.t 102)),
  st (.store 1 (.t 103) (.t 101))]))
def r_l15_world_led_0 : Cd := (.seq (.reg [] [fi 124 (.mv (.t 2)),
  fi 125 (.mv (.t 7)),
  fi 126 (.bin .add (.t 125) (.c (.int .i64 1))),
  ei 127 (.call 14 [(.t 124), (.t 126)]),
  fi 123 (.mv (.t 127)),
  fi 128 (.extract (.t 123) 0),
  fi 129 (.extract (.t 123) 1),
  fi 130 (.extract (.t 123) 2),
  fi 8 (.mv (.t 128)),
  fi 9 (.mv (.t 129)),
  fi 10 (.mv (.t 130))])
 (.seq (.reg [0, 1, 2, 3, 4, 5, 6, 7, 8, 9, 10, 11, 12, 13, 14, 15, 16, 17, 18, 19, 20, 21, 22, 23, 24] [fi 131 (.mv (.t 10)),
  fi 132 (.bin .neq (.t 131) (.c (.int .i64 0))),
  fi 133 (.mv (.t 132)),
  .run ⟨(some 134), (some (133, false)), .f (.mv (.t 8))⟩,
  .run ⟨(some 135), (some (133, false)), .f (.conv .bytesStr (.t 134))⟩,
  .run ⟨(some 136), (some (133, false)), .f (.mv (.t 0))⟩,
  .run ⟨(some 137), (some (133, false)), .f (.nilCheck (.t 136))⟩,
  .run ⟨(some 138), (some (133, false)), .f (.fieldAddr 5 (.t 137))⟩,
  .run ⟨(some 139), (some (133, false)), .f (.load false 1 (.t 138))⟩,
  .run ⟨(some 140), (some (133, false)), .f (.mv (.t 7))⟩,
  .run ⟨(some 141), (some (133, false)), .f (.indexAddr 1 (.t 139) (.t 140))⟩,
  .run ⟨(some 142), (some (133, false)), .f (.load false 1 (.t 141))⟩,
  .run ⟨(some 143), (some (133, false)), .f (.bin .neq (.t 135) (.t 142))⟩,
  fi 144 (.pick (.t 133) (.c (.bool true)) (.t 143)),
  fi 145 (.mv (.t 144)),
  .run ⟨(some 146), (some (145, false)), .f (.mv (.t 9))⟩,
  .run ⟨(some 147), (some (145, false)), .f (.mv (.t 0))⟩,
  .run ⟨(some 148), (some (145, false)), .f (.nilCheck (.t 147))⟩,
  .run ⟨(some 149), (some (145, false)), .f (.fieldAddr 6 (.t 148))⟩,
  .run ⟨(some 150), (some (145, false)), .f (.load false 1 (.t 149))⟩,
  .run ⟨(some 151), (some (145, false)), .f (.mv (.t 7))⟩,
  .run ⟨(some 152), (some (145, false)), .f (.indexAddr 1 (.t 150) (.t 151))⟩,
  .run ⟨(some 153), (some (145, false)), .f (.load false 1 (.t 152))⟩,
  .run ⟨(some 154), (some (145, false)), .f (.bin .neq (.t 146) (.t 153))⟩,
  fi 155 (.pick (.t 145) (.c (.bool true)) (.t 154))])
 (.ite (.t 155)
 (.reg [] [fi 156 (.mv (.t 0)),
  fi 157 (.nilCheck (.t 156)),
  fi 158 (.fieldAddr 11 (.t 157)),
  st (.store 1 (.t 158) (.c (.bool true)))])
 .skip)))
def r_l15_world_led_1 : Cd := (.seq (.blk 3 (.seq (.seq (.reg [0, 1, 2, 3, 4, 5, 6, 7, 8, 3, 6, 9] [fi 113 (.mv (.t 0)),
  fi 114 (.nilCheck (.t 113)),
  fi 115 (.fieldAddr 10 (.t 114)),
  fi 116 (.load false 1 (.t 115)),
  fi 117 (.mv (.t 7)),
  fi 118 (.indexAddr 1 (.t 116) (.t 117)),
  fi 119 (.load false 1 (.t 118)),
  fi 120 (.mv (.t 2)),
  ei 121 (.call 17 [(.t 120)]),
  .chk 116 none (.load false 1 (.t 115)),
  .chk 119 none (.load false 1 (.t 118)),
  fi 122 (.bin .geq (.t 119) (.t 121))])
 (.ite (.t 122)
 (.exit 3)
 .skip))
 r_l15_world_led_0))
 (.reg [] [fi 111 (.mv (.t 7)),
  fi 112 (.bin .add (.t 111) (.c (.int .i64 1))),
  fi 7 (.mv (.t 112))]))
def l_l15_world_led_1 : Cd := (.seq (.seq (.reg [] [fi 104 (.mv (.t 7)),
  fi 105 (.mv (.t 0)),
  fi 106 (.nilCheck (.t 105)),
  fi 107 (.fieldAddr 5 (.t 106)),
  fi 108 (.load false 1 (.t 107)),
  fi 109 (.len .sl (.t 108)),
  fi 110 (.bin .lss (.t 104) (.t 109))])
 (.ite (.t 110)
 .skip
 (.exit 2)))
 r_l15_world_led_1)
def s_l15_world_led_0 : Cd := (.seq (.seq (.reg [0, 1, 2, 3, 4, 5, 6, 7, 8, 9, 10, 11, 12, 13, 14, 15, 16, 17, 18, 19, 20, 21, 22, 23, 24, 25, 26, 27, 28, 29, 30, 31, 32, 33, 34, 35, 36, 26, 30, 34, 37, 38] [fi 44 (.mv (.t 0)),
  fi 45 (.nilCheck (.t 44)),
  fi 46 (.fieldAddr 7 (.t 45)),
  fi 47 (.load false 1 (.t 46)),
  fi 48 (.len .sl (.t 47)),
  fi 49 (.bin .eql (.t 48) (.c (.int .i64 0))),
  fi 50 (.mv (.t 49)),
  .run ⟨(some 51), (some (50, false)), .f (.mv (.t 0))⟩,
  .run ⟨(some 52), (some (50, false)), .f (.nilCheck (.t 51))⟩,
  .run ⟨(some 53), (some (50, false)), .f (.fieldAddr 7 (.t 52))⟩,
  .run ⟨(some 54), (some (50, false)), .f (.load false 1 (.t 53))⟩,
  .run ⟨(some 55), (some (50, false)), .f (.mv (.t 0))⟩,
  .run ⟨(some 56), (some (50, false)), .f (.nilCheck (.t 55))⟩,
  .run ⟨(some 57), (some (50, false)), .f (.fieldAddr 7 (.t 56))⟩,
  .run ⟨(some 58), (some (50, false)), .f (.load false 1 (.t 57))⟩,
  .run ⟨(some 59), (some (50, false)), .f (.len .sl (.t 58))⟩,
  .run ⟨(some 60), (some (50, false)), .f (.bin .sub (.t 59) (.c (.int .i64 1)))⟩,
  .run ⟨(some 61), (some (50, false)), .f (.indexAddr 1 (.t 54) (.t 60))⟩,
  .run ⟨(some 62), (some (50, false)), .f (.load false 1 (.t 61))⟩,
  .run ⟨(some 63), (some (50, false)), .f (.mv (.t 1))⟩,
  .run ⟨(some 64), (some (50, false)), .f (.bin .neq (.t 62) (.t 63))⟩,
  fi 65 (.pick (.t 50) (.c (.bool true)) (.t 64)),
  fi 66 (.mv (.t 65)),
  .run ⟨(some 67), (some (66, false)), .f (.mv (.t 0))⟩,
  .run ⟨(some 68), (some (66, false)), .f (.nilCheck (.t 67))⟩,
  .run ⟨(some 69), (some (66, false)), .f (.fieldAddr 8 (.t 68))⟩,
  .run ⟨(some 70), (some (66, false)), .f (.load false 1 (.t 69))⟩,
  .run ⟨(some 71), (some (66, false)), .f (.mv (.t 0))⟩,
  .run ⟨(some 72), (some (66, false)), .f (.nilCheck (.t 71))⟩,
  .run ⟨(some 73), (some (66, false)), .f (.fieldAddr 8 (.t 72))⟩,
  .run ⟨(some 74), (some (66, false)), .f (.load false 1 (.t 73))⟩,
  .run ⟨(some 75), (some (66, false)), .f (.len .sl (.t 74))⟩,
  .run ⟨(some 76), (some (66, false)), .f (.bin .sub (.t 75) (.c (.int .i64 1)))⟩,
  .run ⟨(some 77), (some (66, false)), .f (.indexAddr 1 (.t 70) (.t 76))⟩,
  .run ⟨(some 78), (some (66, false)), .f (.load false 1 (.t 77))⟩,
  .run ⟨(some 79), (some (66, false)), .f (.mv (.t 2))⟩,
  .run ⟨(some 80), (some (66, false)), .e (.call 17 [(.t 79)])⟩,
  .chk 70 (some (66, false)) (.load false 1 (.t 69)),
  .chk 74 (some (66, false)) (.load false 1 (.t 73)),
  .chk 78 (some (66, false)) (.load false 1 (.t 77)),
  .run ⟨(some 81), (some (66, false)), .f (.bin .neq (.t 78) (.t 80))⟩,
  fi 82 (.pick (.t 66) (.c (.bool true)) (.t 81))])
 (.ite (.t 82)
 i_l15_world_led_0
 .skip))
 (.seq (.reg [] [fi 7 (.mv (.c (.int .i64 0)))])
 (.blk 2 (.loop l_l15_world_led_1))))
def b_l15_world_led : Cd := (.seq (.seq (.reg [] [fi 6 (.mv (.c (.int .i64 0)))])
 (.blk 0 (.loop l_l15_world_led_0)))
 s_l15_world_led_0)
theorem k_l15_world_led : chkFn Try.prog n_l15_world_led ⟨b_l15_world_led, [], 159⟩ = true := by kernel_rfl
abbrev n_l15_world_look : Nat := 22
def r_l15_world_look_0 : Cd := (.seq (.blk 3 (.seq (.reg [] [fi 127 (.mv (.t 0)),
  fi 128 (.nilCheck (.t 127)),
  fi 129 (.fieldAddr 9 (.t 128)),
  fi 130 (.load false 1 (.t 129)),
  fi 131 (.mv (.t 10)),
  fi 132 (.indexAddr 1 (.t 130) (.t 131)),
  fi 133 (.load false 1 (.t 132)),
  fi 134 (.mv (.t 9)),
  fi 135 (.bin .gtr (.t 133) (.t 134))])
 (.ite (.t 135)
 (.reg [] [fi 136 (.mv (.t 0)),
  fi 137 (.nilCheck (.t 136)),
  fi 138 (.fieldAddr 9 (.t 137)),
  fi 139 (.load false 1 (.t 138)),
  fi 140 (.mv (.t 10)),
  fi 141 (.indexAddr 1 (.t 139) (.t 140)),
  fi 142 (.load false 1 (.t 141)),
  fi 9 (.mv (.t 142))])
 .skip)))
 (.reg [] [fi 125 (.mv (.t 10)),
  fi 126 (.bin .add (.t 125) (.c (.int .i64 1))),
  fi 10 (.mv (.t 126))]))
def l_l15_world_look_0 : Cd := (.seq (.seq (.reg [] [fi 119 (.mv (.t 10)),
  fi 120 (.mv (.t 0)),
  fi 121 (.nilCheck (.t 120)),
  fi 122 (.fieldAddr 0 (.t 121)),
  fi 123 (.load false 1 (.t 122)),
  fi 124 (.bin .lss (.t 119) (.t 123))])
 (.ite (.t 124)
 .skip
 (.exit 2)))
 r_l15_world_look_0)
def s_l15_world_look_0 : Cd := (.seq (.reg [] [fi 143 (.mv (.t 0)),
  fi 144 (.mv (.t 0)),
  fi 145 (.nilCheck (.t 144)),
  fi 146 (.fieldAddr 10 (.t 145)),
  fi 147 (.load false 1 (.t 146)),
  fi 148 (.mv (.t 9)),
  ei 149 (.buildSlice 1 1 0 [(.int .u64 0)] [(0, 1, (.t 148))]),
  ei 150 (.append 1 8 false (.t 147) (.t 149)),
  fi 151 (.nilCheck (.t 143)),
  fi 152 (.fieldAddr 10 (.t 151)),
  st (.store 1 (.t 152) (.t 150))])
 (.reg [] [fi 153 (.mv (.t 0)),
  fi 154 (.mv (.t 0)),
  fi 155 (.nilCheck (.t 154)),
  fi 156 (.fieldAddr 11 (.t 155)),
  fi 157 (.load false 1 (.t 156)),
  fi 158 (.mv (.t 157)),
  .run ⟨(some 159), (some (158, false)), .f (.mv (.t 0))⟩,
  .run ⟨(some 160), (some (158, false)), .f (.mv (.t 6))⟩,
  .run ⟨(some 161), (some (158, false)), .f (.conv .bytesStr (.t 160))⟩,
  .run ⟨(some 162), (some (158, false)), .e (.call 40 [(.t 159), (.t 161)])⟩,
  .run ⟨(some 163), (some (158, false)), .f (.un .not (.t 162))⟩,
  fi 164 (.pick (.t 158) (.c (.bool true)) (.t 163)),
  fi 165 (.nilCheck (.t 153)),
  fi 166 (.fieldAddr 11 (.t 165)),
  st (.store 1 (.t 166) (.t 164))]))
def i_l15_world_look_0 : Cd := (.seq (.reg [0, 1, 2, 3, 4, 5, 6, 7, 4, 8, 9, 10, 11] [fi 98 (.mv (.t 0)),
  fi 99 (.mv (.t 0)),
  fi 100 (.nilCheck (.t 99)),
  fi 101 (.fieldAddr 5 (.t 100)),
  fi 102 (.load false 1 (.t 101)),
  fi 103 (.mv (.t 6)),
  fi 104 (.conv .bytesStr (.t 103)),
  ei 105 (.buildSlice 1 1 0 [(.str (mkS []))] [(0, 1, (.t 104))]),
  .chk 102 none (.load false 1 (.t 101)),
  ei 106 (.append 1 16 false (.t 102) (.t 105)),
  fi 107 (.nilCheck (.t 98)),
  fi 108 (.fieldAddr 5 (.t 107)),
  st (.store 1 (.t 108) (.t 106))])
 (.seq (.reg [] [fi 109 (.mv (.t 0)),
  fi 110 (.mv (.t 0)),
  fi 111 (.nilCheck (.t 110)),
  fi 112 (.fieldAddr 6 (.t 111)),
  fi 113 (.load false 1 (.t 112)),
  fi 114 (.mv (.t 7)),
  ei 115 (.buildSlice 1 1 0 [(.int .u64 0)] [(0, 1, (.t 114))]),
  ei 116 (.append 1 8 false (.t 113) (.t 115)),
  fi 117 (.nilCheck (.t 109)),
  fi 118 (.fieldAddr 6 (.t 117)),
  st (.store 1 (.t 118) (.t 116))])
 (.seq (.reg [] [fi 9 (.mv (.c (.int .u64 0)))])
 (.seq (.seq (.reg [] [fi 10 (.mv (.c (.int .i64 0)))])
 (.blk 2 (.loop l_l15_world_look_0)))
 s_l15_world_look_0))))
def r_l15_world_look_1 : Cd := (.seq (.reg [0, 1, 2, 3, 4, 5, 6, 7, 8, 9, 10, 11, 12, 13, 14, 15, 16, 17, 18, 19, 20, 21, 22] [fi 167 (.mv (.t 0)),
  fi 168 (.nilCheck (.t 167)),
  fi 169 (.fieldAddr 5 (.t 168)),
  fi 170 (.load false 1 (.t 169)),
  fi 171 (.mv (.t 5)),
  fi 172 (.bin .sub (.t 171) (.c (.int .i64 1))),
  fi 173 (.indexAddr 1 (.t 170) (.t 172)),
  fi 174 (.load false 1 (.t 173)),
  fi 175 (.mv (.t 6)),
  fi 176 (.conv .bytesStr (.t 175)),
  fi 177 (.bin .neq (.t 174) (.t 176)),
  fi 178 (.mv (.t 177)),
  .run ⟨(some 179), (some (178, false)), .f (.mv (.t 0))⟩,
  .run ⟨(some 180), (some (178, false)), .f (.nilCheck (.t 179))⟩,
  .run ⟨(some 181), (some (178, false)), .f (.fieldAddr 6 (.t 180))⟩,
  .run ⟨(some 182), (some (178, false)), .f (.load false 1 (.t 181))⟩,
  .run ⟨(some 183), (some (178, false)), .f (.mv (.t 5))⟩,
  .run ⟨(some 184), (some (178, false)), .f (.bin .sub (.t 183) (.c (.int .i64 1)))⟩,
  .run ⟨(some 185), (some (178, false)), .f (.indexAddr 1 (.t 182) (.t 184))⟩,
  .run ⟨(some 186), (some (178, false)), .f (.load false 1 (.t 185))⟩,
  .run ⟨(some 187), (some (178, false)), .f (.mv (.t 7))⟩,
  .run ⟨(some 188), (some (178, false)), .f (.bin .neq (.t 186) (.t 187))⟩,
  fi 189 (.pick (.t 178) (.c (.bool true)) (.t 188))])
 (.ite (.t 189)
 (.reg [] [fi 190 (.mv (.t 0)),
  fi 191 (.nilCheck (.t 190)),
  fi 192 (.fieldAddr 11 (.t 191)),
  st (.store 1 (.t 192) (.c (.bool true)))])
 .skip))
def r_l15_world_look_2 : Cd := (.seq (.seq (.reg [] [fi 91 (.mv (.t 5)),
  fi 92 (.mv (.t 0)),
  fi 93 (.nilCheck (.t 92)),
  fi 94 (.fieldAddr 5 (.t 93)),
  fi 95 (.load false 1 (.t 94)),
  fi 96 (.len .sl (.t 95)),
  fi 97 (.bin .gtr (.t 91) (.t 96))])
 (.ite (.t 97)
 i_l15_world_look_0
 .skip))
 r_l15_world_look_1)
def r_l15_world_look_3 : Cd := (.seq (.blk 1 (.seq (.reg [] [fi 80 (.mv (.t 4)),
  fi 81 (.mv (.t 5)),
  ei 82 (.call 14 [(.t 80), (.t 81)]),
  fi 79 (.mv (.t 82)),
  fi 83 (.extract (.t 79) 0),
  fi 84 (.extract (.t 79) 1),
  fi 85 (.extract (.t 79) 2),
  fi 6 (.mv (.t 83)),
  fi 7 (.mv (.t 84)),
  fi 8 (.mv (.t 85))])
 (.seq (.seq (.reg [] [fi 86 (.mv (.t 8)),
  fi 87 (.bin .neq (.t 86) (.c (.int .i64 0)))])
 (.ite (.t 87)
 (.seq (.reg [] [fi 88 (.mv (.t 0)),
  fi 89 (.nilCheck (.t 88)),
  fi 90 (.fieldAddr 11 (.t 89)),
  st (.store 1 (.t 90) (.c (.bool true)))])
 .ret)
 .skip))
 r_l15_world_look_2)))
 (.reg [] [fi 77 (.mv (.t 5)),
  fi 78 (.bin .add (.t 77) (.c (.int .i64 1))),
  fi 5 (.mv (.t 78))]))
def l_l15_world_look_1 : Cd := (.seq (.seq (.reg [] [fi 73 (.mv (.t 5)),
  fi 74 (.mv (.t 4)),
  ei 75 (.call 16 [(.t 74)]),
  fi 76 (.bin .leq (.t 73) (.t 75))])
 (.ite (.t 76)
 .skip
 (.exit 0)))
 r_l15_world_look_3)
def r_l15_world_look_4 : Cd := (.seq (.reg [0, 1, 2, 3, 4, 5, 6, 3, 7, 8] [fi 65 (.mv (.t 0)),
  fi 66 (.nilCheck (.t 65)),
  fi 67 (.fieldAddr 9 (.t 66)),
  fi 68 (.load false 1 (.t 67)),
  fi 69 (.mv (.t 1)),
  fi 70 (.mv (.t 4)),
  ei 71 (.call 17 [(.t 70)]),
  .chk 68 none (.load false 1 (.t 67)),
  fi 72 (.indexAddr 1 (.t 68) (.t 69)),
  st (.store 1 (.t 72) (.t 71))])
 (.seq (.seq (.reg [] [fi 5 (.mv (.c (.int .i64 1)))])
 (.blk 0 (.loop l_l15_world_look_1)))
 (.seq (.reg [] [fi 193 (.mv (.t 4)),
  ei 194 (.call 11 [(.t 193)])])
 (.ite (.t 194)
 (.reg [] [fi 195 (.mv (.t 0)),
  fi 196 (.mv (.t 1)),
  fi 197 (.mv (.t 4)),
  ei 198 (.call 41 [(.t 195), (.t 196), (.t 197)])])
 .skip))))
def r_l15_world_look_5 : Cd := (.seq (.reg [0, 1, 2, 3, 4, 5, 6, 4, 7, 8, 9, 10] [fi 35 (.mv (.t 0)),
  fi 36 (.mv (.t 0)),
  fi 37 (.nilCheck (.t 36)),
  fi 38 (.fieldAddr 3 (.t 37)),
  fi 39 (.load false 1 (.t 38)),
  fi 40 (.mv (.t 4)),
  ei 41 (.call 39 [(.t 40)]),
  .chk 39 none (.load false 1 (.t 38)),
  ei 42 (.append 3 40 false (.t 39) (.t 41)),
  fi 43 (.nilCheck (.t 35)),
  fi 44 (.fieldAddr 3 (.t 43)),
  st (.store 1 (.t 44) (.t 42))])
 (.seq (.seq (.reg [0, 2, 3, 4, 5, 6, 7, 8, 1, 5, 8, 9, 10, 11, 13, 12, 14, 15, 16] [fi 45 (.mv (.t 4)),
  fi 47 (.mv (.t 0)),
  fi 48 (.nilCheck (.t 47)),
  fi 49 (.fieldAddr 9 (.t 48)),
  fi 50 (.load false 1 (.t 49)),
  fi 51 (.mv (.t 1)),
  fi 52 (.indexAddr 1 (.t 50) (.t 51)),
  fi 53 (.load false 1 (.t 52)),
  ei 46 (.call 17 [(.t 45)]),
  .chk 50 none (.load false 1 (.t 49)),
  .chk 53 none (.load false 1 (.t 52)),
  fi 54 (.bin .lss (.t 46) (.t 53)),
  fi 55 (.mv (.t 54)),
  .run ⟨(some 56), (some (55, false)), .f (.mv (.t 4))⟩,
  .run ⟨(some 58), (some (55, false)), .f (.mv (.t 4))⟩,
  .run ⟨(some 57), (some (55, false)), .e (.call 16 [(.t 56)])⟩,
  .run ⟨(some 59), (some (55, false)), .e (.call 15 [(.t 58)])⟩,
  .run ⟨(some 60), (some (55, false)), .f (.bin .gtr (.t 57) (.t 59))⟩,
  fi 61 (.pick (.t 55) (.c (.bool true)) (.t 60))])
 (.ite (.t 61)
 (.reg [] [fi 62 (.mv (.t 0)),
  fi 63 (.nilCheck (.t 62)),
  fi 64 (.fieldAddr 11 (.t 63)),
  st (.store 1 (.t 64) (.c (.bool true)))])
 .skip))
 r_l15_world_look_4))
def r_l15_world_look_6 : Cd := (.seq (.seq (.reg [] [fi 20 (.mv (.t 0)),
  fi 21 (.nilCheck (.t 20)),
  fi 22 (.fieldAddr 1 (.t 21)),
  fi 23 (.load false 1 (.t 22)),
  fi 24 (.mv (.t 1)),
  fi 25 (.indexAddr 1 (.t 23) (.t 24)),
  fi 26 (.load false 1 (.t 25)),
  ei 27 (.call 38 [(.t 26)]),
  fi 28 (.un .not (.t 27))])
 (.ite (.t 28)
 (.seq (.reg [] [fi 29 (.mv (.t 0)),
  fi 30 (.nilCheck (.t 29)),
  fi 31 (.fieldAddr 2 (.t 30)),
  fi 32 (.load false 1 (.t 31)),
  fi 33 (.mv (.t 1)),
  fi 34 (.indexAddr 1 (.t 32) (.t 33)),
  st (.store 1 (.t 34) (.c (.ptr none)))])
 .ret)
 .skip))
 r_l15_world_look_5)
def b_l15_world_look : Cd := (.seq (.reg [] [fi 11 (.mv (.t 0)),
  fi 12 (.nilCheck (.t 11)),
  fi 13 (.fieldAddr 2 (.t 12)),
  fi 14 (.load false 1 (.t 13)),
  fi 15 (.mv (.t 1)),
  fi 16 (.indexAddr 1 (.t 14) (.t 15)),
  fi 17 (.load false 1 (.t 16)),
  fi 4 (.mv (.t 17))])
 (.seq (.seq (.reg [] [fi 18 (.mv (.t 4)),
  fi 19 (.eq false .ptr (.t 18) (.c (.ptr none)))])
 (.ite (.t 19)
 .ret
 .skip))
 r_l15_world_look_6))
theorem k_l15_world_look : chkFn Try.prog n_l15_world_look ⟨b_l15_world_look, [], 199⟩ = true := by kernel_rfl
abbrev n_raft_Node_Entry : Nat := 14
def b_raft_Node_Entry : Cd := (.seq (.reg [] [fi 4 (.mv (.c (.sl [] 0 1 .nil))),
  fi 5 (.mv (.c (.int .u64 0))),
  fi 6 (.mv (.c (.int .i64 0)))])
 (.seq (.seq (.reg [] [fi 7 (.mv (.t 0)),
  fi 8 (.eq false .ptr (.t 7) (.c (.ptr none))),
  fi 9 (.mv (.t 8)),
  .run ⟨(some 10), (some (9, false)), .f (.mv (.t 1))⟩,
  .run ⟨(some 11), (some (9, false)), .f (.bin .lss (.t 10) (.c (.int .i64 1)))⟩,
  fi 12 (.pick (.t 9) (.c (.bool true)) (.t 11)),
  fi 13 (.mv (.t 12)),
  .run ⟨(some 14), (some (13, false)), .f (.mv (.t 1))⟩,
  .run ⟨(some 15), (some (13, false)), .f (.mv (.t 0))⟩,
  .run ⟨(some 16), (some (13, false)), .f (.nilCheck (.t 15))⟩,
  .run ⟨(some 17), (some (13, false)), .f (.fieldAddr 5 (.t 16))⟩,
  .run ⟨(some 18), (some (13, false)), .f (.load false 1 (.t 17))⟩,
  .run ⟨(some 19), (some (13, false)), .f (.len .sl (.t 18))⟩,
  .run ⟨(some 20), (some (13, false)), .f (.bin .gtr (.t 14) (.t 19))⟩,
  fi 21 (.pick (.t 13) (.c (.bool true)) (.t 20))])
 (.ite (.t 21)
 (.seq (.reg [] [fi 4 (.mv (.c (.sl [] 0 1 .nil))),
  fi 5 (.mv (.c (.int .u64 0))),
  fi 6 (.mv (.c (.int .i64 8)))])
 .ret)
 .skip))
 (.seq (.reg [0, 1, 2, 3, 4, 5, 6, 7, 8, 10, 11, 12, 13, 14, 15, 16, 17, 18, 9, 13, 18, 19, 20, 21] [fi 22 (.mv (.t 0)),
  fi 23 (.nilCheck (.t 22)),
  fi 24 (.fieldAddr 5 (.t 23)),
  fi 25 (.load false 1 (.t 24)),
  fi 26 (.mv (.t 1)),
  fi 27 (.bin .sub (.t 26) (.c (.int .i64 1))),
  fi 28 (.indexAddr 2 (.t 25) (.t 27)),
  fi 29 (.fieldAddr 1 (.t 28)),
  fi 30 (.load false 1 (.t 29)),
  fi 32 (.mv (.t 0)),
  fi 33 (.nilCheck (.t 32)),
  fi 34 (.fieldAddr 5 (.t 33)),
  fi 35 (.load false 1 (.t 34)),
  fi 36 (.mv (.t 1)),
  fi 37 (.bin .sub (.t 36) (.c (.int .i64 1))),
  fi 38 (.indexAddr 2 (.t 35) (.t 37)),
  fi 39 (.fieldAddr 0 (.t 38)),
  fi 40 (.load false 1 (.t 39)),
  ei 31 (.call 35 [(.t 30)]),
  .chk 35 none (.load false 1 (.t 34)),
  .chk 40 none (.load false 1 (.t 39)),
  fi 4 (.mv (.t 31)),
  fi 5 (.mv (.t 40)),
  fi 6 (.mv (.c (.int .i64 0)))])
 .ret)))
theorem k_raft_Node_Entry : chkFn Try.prog n_raft_Node_Entry ⟨b_raft_Node_Entry, [.tmp 4, .tmp 5, .tmp 6], 41⟩ = true := by kernel_rfl
abbrev n_raft_Node_Leader : Nat := 18
def b_raft_Node_Leader : Cd := (.seq (.reg [] [fi 2 (.mv (.c (.int .i64 0)))])
 (.seq (.seq (.reg [] [fi 3 (.mv (.t 0)),
  fi 4 (.eq false .ptr (.t 3) (.c (.ptr none)))])
 (.ite (.t 4)
 (.seq (.reg [] [fi 2 (.mv (.c (.int .i64 (-1))))])
 .ret)
 .skip))
 (.seq (.reg [] [fi 5 (.mv (.t 0)),
  fi 6 (.nilCheck (.t 5)),
  fi 7 (.fieldAddr 8 (.t 6)),
  fi 8 (.load false 1 (.t 7)),
  fi 2 (.mv (.t 8))])
 .ret)))
theorem k_raft_Node_Leader : chkFn Try.prog n_raft_Node_Leader ⟨b_raft_Node_Leader, [.tmp 2], 9⟩ = true := by kernel_rfl
abbrev n_raft_Node_Leads : Nat := 11
def b_raft_Node_Leads : Cd := (.seq (.reg [] [fi 2 (.mv (.c (.bool false)))])
 (.seq (.reg [] [fi 3 (.mv (.t 0)),
  fi 4 (.eq true .ptr (.t 3) (.c (.ptr none))),
  fi 5 (.mv (.t 4)),
  .run ⟨(some 6), (some (5, true)), .f (.mv (.t 0))⟩,
  .run ⟨(some 7), (some (5, true)), .f (.nilCheck (.t 6))⟩,
  .run ⟨(some 8), (some (5, true)), .f (.fieldAddr 16 (.t 7))⟩,
  .run ⟨(some 9), (some (5, true)), .f (.load false 1 (.t 8))⟩,
  .run ⟨(some 10), (some (5, true)), .f (.un .not (.t 9))⟩,
  fi 11 (.pick (.t 5) (.t 10) (.c (.bool false))),
  fi 12 (.mv (.t 11)),
  .run ⟨(some 13), (some (12, true)), .f (.mv (.t 0))⟩,
  .run ⟨(some 14), (some (12, true)), .f (.nilCheck (.t 13))⟩,
  .run ⟨(some 15), (some (12, true)), .f (.fieldAddr 7 (.t 14))⟩,
  .run ⟨(some 16), (some (12, true)), .f (.load false 1 (.t 15))⟩,
  .run ⟨(some 17), (some (12, true)), .f (.bin .eql (.t 16) (.c (.int .u8 2)))⟩,
  fi 18 (.pick (.t 12) (.t 17) (.c (.bool false))),
  fi 2 (.mv (.t 18))])
 .ret))
theorem k_raft_Node_Leads : chkFn Try.prog n_raft_Node_Leads ⟨b_raft_Node_Leads, [.tmp 2], 19⟩ = true := by kernel_rfl
abbrev n_raft_Node_Len : Nat := 15
def b_raft_Node_Len : Cd := (.seq (.reg [] [fi 2 (.mv (.c (.int .i64 0)))])
 (.seq (.seq (.reg [] [fi 3 (.mv (.t 0)),
  fi 4 (.eq false .ptr (.t 3) (.c (.ptr none)))])
 (.ite (.t 4)
 (.seq (.reg [] [fi 2 (.mv (.c (.int .i64 0)))])
 .ret)
 .skip))
 (.seq (.reg [] [fi 5 (.mv (.t 0)),
  fi 6 (.nilCheck (.t 5)),
  fi 7 (.fieldAddr 5 (.t 6)),
  fi 8 (.load false 1 (.t 7)),
  fi 9 (.len .sl (.t 8)),
  fi 2 (.mv (.t 9))])
 .ret)))
theorem k_raft_Node_Len : chkFn Try.prog n_raft_Node_Len ⟨b_raft_Node_Len, [.tmp 2], 10⟩ = true := by kernel_rfl
abbrev n_raft_Node_Out : Nat := 39
def b_raft_Node_Out : Cd := (.seq (.reg [] [fi 2 (.mv (.c (.sl [] 0 3 .nil)))])
 (.seq (.seq (.reg [] [fi 4 (.mv (.t 0)),
  fi 5 (.eq false .ptr (.t 4) (.c (.ptr none)))])
 (.ite (.t 5)
 (.seq (.reg [] [fi 2 (.mv (.c (.sl [] 0 3 .nil)))])
 .ret)
 .skip))
 (.seq (.reg [] [fi 6 (.mv (.t 0)),
  fi 7 (.nilCheck (.t 6)),
  fi 8 (.fieldAddr 15 (.t 7)),
  fi 9 (.load false 1 (.t 8)),
  fi 3 (.mv (.t 9))])
 (.seq (.reg [] [fi 10 (.mv (.t 0)),
  fi 11 (.nilCheck (.t 10)),
  fi 12 (.fieldAddr 15 (.t 11)),
  st (.store 1 (.t 12) (.c (.sl [] 0 3 .nil)))])
 (.seq (.reg [] [fi 13 (.mv (.t 3)),
  fi 2 (.mv (.t 13))])
 .ret)))))
theorem k_raft_Node_Out : chkFn Try.prog n_raft_Node_Out ⟨b_raft_Node_Out, [.tmp 2], 14⟩ = true := by kernel_rfl
abbrev n_raft_Node_Propose : Nat := 13
def b_raft_Node_Propose : Cd := (.seq (.reg [] [fi 4 (.mv (.c (.int .i64 0)))])
 (.seq (.blk 0 (.seq (.reg [] [fi 6 (.mv (.t 0)),
  fi 7 (.eq false .ptr (.t 6) (.c (.ptr none))),
  fi 5 (.mv (.t 7))])
 (.ite (.t 5)
 (.seq (.reg [] [fi 4 (.mv (.c (.int .i64 8)))])
 .ret)
 (.seq (.reg [] [fi 9 (.mv (.t 1)),
  fi 10 (.len .sl (.t 9)),
  fi 11 (.bin .gtr (.t 10) (.c (.int .i64 200))),
  fi 8 (.mv (.t 11))])
 (.ite (.t 8)
 (.seq (.reg [] [fi 4 (.mv (.c (.int .i64 2)))])
 .ret)
 (.seq (.reg [] [fi 13 (.mv (.t 0)),
  fi 14 (.nilCheck (.t 13)),
  fi 15 (.fieldAddr 16 (.t 14)),
  fi 16 (.load false 1 (.t 15)),
  fi 17 (.mv (.t 16)),
  .run ⟨(some 18), (some (17, false)), .f (.mv (.t 0))⟩,
  .run ⟨(some 19), (some (17, false)), .f (.nilCheck (.t 18))⟩,
  .run ⟨(some 20), (some (17, false)), .f (.fieldAddr 7 (.t 19))⟩,
  .run ⟨(some 21), (some (17, false)), .f (.load false 1 (.t 20))⟩,
  .run ⟨(some 22), (some (17, false)), .f (.bin .neq (.t 21) (.c (.int .u8 2)))⟩,
  fi 23 (.pick (.t 17) (.c (.bool true)) (.t 22)),
  fi 12 (.mv (.t 23))])
 (.ite (.t 12)
 (.seq (.reg [] [fi 4 (.mv (.c (.int .i64 12)))])
 .ret)
 .skip)))))))
 (.seq (.reg [] [fi 24 (.mv (.t 0)),
  fi 25 (.mv (.t 1)),
  ei 26 (.call 34 [(.t 24), (.t 25)]),
  fi 4 (.mv (.t 26))])
 .ret)))
theorem k_raft_Node_Propose : chkFn Try.prog n_raft_Node_Propose ⟨b_raft_Node_Propose, [.tmp 4], 27⟩ = true := by kernel_rfl
abbrev n_raft_Node_Step : Nat := 36
def k_raft_Node_Step_0 : Cd := (.seq (.reg [] [fi 58 (.bin .eql (.t 56) (.c (.int .u8 1))),
  fi 57 (.mv (.t 58))])
 (.ite (.t 57)
 (.seq (.reg [] [fi 59 (.mv (.t 0)),
  fi 60 (.mv (.t 1)),
  fi 61 (.load true 7 (.t 7)),
  ei 62 (.call 58 [(.t 59), (.t 60), (.t 61)]),
  fi 6 (.mv (.t 62))])
 .ret)
 (.seq (.reg [] [fi 64 (.bin .eql (.t 56) (.c (.int .u8 2))),
  fi 63 (.mv (.t 64))])
 (.ite (.t 63)
 (.seq (.reg [0, 1, 2, 3, 4, 5, 6, 7, 8, 9, 10, 11, 12, 13, 14, 15, 16, 17] [fi 65 (.fieldAddr 1 (.t 7)),
  fi 66 (.load false 1 (.t 65)),
  fi 67 (.mv (.t 0)),
  fi 68 (.nilCheck (.t 67)),
  fi 69 (.fieldAddr 3 (.t 68)),
  fi 70 (.load false 1 (.t 69)),
  fi 71 (.bin .eql (.t 66) (.t 70)),
  fi 72 (.mv (.t 71)),
  .run ⟨(some 73), (some (72, true)), .f (.mv (.t 0))⟩,
  .run ⟨(some 74), (some (72, true)), .f (.nilCheck (.t 73))⟩,
  .run ⟨(some 75), (some (72, true)), .f (.fieldAddr 7 (.t 74))⟩,
  .run ⟨(some 76), (some (72, true)), .f (.load false 1 (.t 75))⟩,
  .run ⟨(some 77), (some (72, true)), .f (.bin .eql (.t 76) (.c (.int .u8 1)))⟩,
  fi 78 (.pick (.t 72) (.t 77) (.c (.bool false))),
  fi 79 (.mv (.t 78)),
  .run ⟨(some 80), (some (79, true)), .f (.fieldAddr 5 (.t 7))⟩,
  .run ⟨(some 81), (some (79, true)), .f (.load false 1 (.t 80))⟩,
  fi 82 (.pick (.t 79) (.t 81) (.c (.bool false)))])
 (.ite (.t 82)
 (.seq (.reg [] [fi 83 (.mv (.t 0)),
  fi 84 (.nilCheck (.t 83)),
  fi 85 (.fieldAddr 9 (.t 84)),
  fi 86 (.load false 1 (.t 85)),
  fi 87 (.mv (.t 1)),
  fi 88 (.indexAddr 1 (.t 86) (.t 87)),
  st (.store 1 (.t 88) (.c (.bool true)))])
 (.seq (.reg [] [fi 89 (.mv (.t 0)),
  ei 90 (.call 33 [(.t 89)]),
  fi 6 (.mv (.t 90))])
 .ret))
 .skip))
 (.seq (.reg [] [fi 92 (.bin .eql (.t 56) (.c (.int .u8 3))),
  fi 91 (.mv (.t 92))])
 (.ite (.t 91)
 (.seq (.reg [] [fi 93 (.mv (.t 0)),
  fi 94 (.mv (.t 1)),
  fi 95 (.load true 7 (.t 7)),
  ei 96 (.call 59 [(.t 93), (.t 94), (.t 95)]),
  fi 6 (.mv (.t 96))])
 .ret)
 (.seq (.reg [] [fi 98 (.bin .eql (.t 56) (.c (.int .u8 4))),
  fi 97 (.mv (.t 98))])
 (.ite (.t 97)
 (.reg [] [fi 99 (.mv (.t 0)),
  fi 100 (.mv (.t 1)),
  fi 101 (.load true 7 (.t 7)),
  ei 102 (.call 60 [(.t 99), (.t 100), (.t 101)])])
 .skip))))))))
def r_raft_Node_Step_0 : Cd := (.seq (.seq (.reg [0, 1, 2, 3, 4, 5, 6] [fi 41 (.fieldAddr 1 (.t 7)),
  fi 42 (.load false 1 (.t 41)),
  fi 43 (.mv (.t 0)),
  fi 44 (.nilCheck (.t 43)),
  fi 45 (.fieldAddr 3 (.t 44)),
  fi 46 (.load false 1 (.t 45)),
  fi 47 (.bin .gtr (.t 42) (.t 46))])
 (.ite (.t 47)
 (.seq (.reg [] [fi 48 (.mv (.t 0)),
  fi 49 (.fieldAddr 1 (.t 7)),
  fi 50 (.load false 1 (.t 49)),
  ei 51 (.call 57 [(.t 48), (.t 50), (.c (.int .i64 (-1)))]),
  fi 9 (.mv (.t 51))])
 (.seq (.reg [] [fi 52 (.mv (.t 9)),
  fi 53 (.bin .neq (.t 52) (.c (.int .i64 0)))])
 (.ite (.t 53)
 (.seq (.reg [] [fi 54 (.mv (.t 9)),
  fi 6 (.mv (.t 54))])
 .ret)
 .skip)))
 .skip))
 (.seq (.seq (.reg [] [fi 55 (.fieldAddr 0 (.t 7)),
  fi 56 (.load false 1 (.t 55))])
 (.blk 0 k_raft_Node_Step_0))
 (.seq (.reg [] [fi 6 (.mv (.c (.int .i64 0)))])
 .ret)))
def r_raft_Node_Step_1 : Cd := (.seq (.seq (.reg [] [fi 37 (.mv (.t 0)),
  fi 38 (.nilCheck (.t 37)),
  fi 39 (.fieldAddr 16 (.t 38)),
  fi 40 (.load false 1 (.t 39))])
 (.ite (.t 40)
 (.seq (.reg [] [fi 6 (.mv (.c (.int .i64 12)))])
 .ret)
 .skip))
 r_raft_Node_Step_0)
def r_raft_Node_Step_2 : Cd := (.seq (.reg [] [fi 31 (.mv (.t 2)),
  ei 32 (.call 56 [(.t 31)]),
  fi 30 (.mv (.t 32)),
  fi 33 (.extract (.t 30) 0),
  fi 34 (.extract (.t 30) 1),
  ei 7 (.alloc [(.int .u8 0), (.int .u64 0), (.int .u64 0), (.int .u64 0), (.int .u64 0), (.bool false), (.sl [] 0 2 .nil)]),
  st (.store 7 (.t 7) (.t 33)),
  fi 8 (.mv (.t 34))])
 (.seq (.seq (.reg [] [fi 35 (.mv (.t 8)),
  fi 36 (.un .not (.t 35))])
 (.ite (.t 36)
 (.seq (.reg [] [fi 6 (.mv (.c (.int .i64 3)))])
 .ret)
 .skip))
 r_raft_Node_Step_1))
def r_raft_Node_Step_3 : Cd := (.seq (.seq (.reg [] [fi 12 (.mv (.t 1)),
  fi 13 (.bin .lss (.t 12) (.c (.int .i64 0))),
  fi 14 (.mv (.t 13)),
  .run ⟨(some 15), (some (14, false)), .f (.mv (.t 1))⟩,
  .run ⟨(some 16), (some (14, false)), .f (.mv (.t 0))⟩,
  .run ⟨(some 17), (some (14, false)), .f (.nilCheck (.t 16))⟩,
  .run ⟨(some 18), (some (14, false)), .f (.fieldAddr 2 (.t 17))⟩,
  .run ⟨(some 19), (some (14, false)), .f (.load false 1 (.t 18))⟩,
  .run ⟨(some 20), (some (14, false)), .f (.bin .geq (.t 15) (.t 19))⟩,
  fi 21 (.pick (.t 14) (.c (.bool true)) (.t 20)),
  fi 22 (.mv (.t 21)),
  .run ⟨(some 23), (some (22, false)), .f (.mv (.t 1))⟩,
  .run ⟨(some 24), (some (22, false)), .f (.mv (.t 0))⟩,
  .run ⟨(some 25), (some (22, false)), .f (.nilCheck (.t 24))⟩,
  .run ⟨(some 26), (some (22, false)), .f (.fieldAddr 1 (.t 25))⟩,
  .run ⟨(some 27), (some (22, false)), .f (.load false 1 (.t 26))⟩,
  .run ⟨(some 28), (some (22, false)), .f (.bin .eql (.t 23) (.t 27))⟩,
  fi 29 (.pick (.t 22) (.c (.bool true)) (.t 28))])
 (.ite (.t 29)
 (.seq (.reg [] [fi 6 (.mv (.c (.int .i64 1)))])
 .ret)
 .skip))
 r_raft_Node_Step_2)
def b_raft_Node_Step : Cd := (.seq (.reg [] [fi 6 (.mv (.c (.int .i64 0)))])
 (.seq (.seq (.reg [] [fi 10 (.mv (.t 0)),
  fi 11 (.eq false .ptr (.t 10) (.c (.ptr none)))])
 (.ite (.t 11)
 (.seq (.reg [] [fi 6 (.mv (.c (.int .i64 8)))])
 .ret)
 .skip))
 r_raft_Node_Step_3))
theorem k_raft_Node_Step : chkFn Try.prog n_raft_Node_Step ⟨b_raft_Node_Step, [.tmp 6], 103⟩ = true := by kernel_rfl
abbrev n_raft_Node_Sure : Nat := 16
def b_raft_Node_Sure : Cd := (.seq (.reg [] [fi 2 (.mv (.c (.int .i64 0)))])
 (.seq (.seq (.reg [] [fi 3 (.mv (.t 0)),
  fi 4 (.eq false .ptr (.t 3) (.c (.ptr none)))])
 (.ite (.t 4)
 (.seq (.reg [] [fi 2 (.mv (.c (.int .i64 0)))])
 .ret)
 .skip))
 (.seq (.reg [] [fi 5 (.mv (.t 0)),
  fi 6 (.nilCheck (.t 5)),
  fi 7 (.fieldAddr 6 (.t 6)),
  fi 8 (.load false 1 (.t 7)),
  fi 2 (.mv (.t 8))])
 .ret)))
theorem k_raft_Node_Sure : chkFn Try.prog n_raft_Node_Sure ⟨b_raft_Node_Sure, [.tmp 2], 9⟩ = true := by kernel_rfl
abbrev n_raft_Node_Term : Nat := 17
def b_raft_Node_Term : Cd := (.seq (.reg [] [fi 2 (.mv (.c (.int .u64 0)))])
 (.seq (.seq (.reg [] [fi 3 (.mv (.t 0)),
  fi 4 (.eq false .ptr (.t 3) (.c (.ptr none)))])
 (.ite (.t 4)
 (.seq (.reg [] [fi 2 (.mv (.c (.int .u64 0)))])
 .ret)
 .skip))
 (.seq (.reg [] [fi 5 (.mv (.t 0)),
  fi 6 (.nilCheck (.t 5)),
  fi 7 (.fieldAddr 3 (.t 6)),
  fi 8 (.load false 1 (.t 7)),
  fi 2 (.mv (.t 8))])
 .ret)))
theorem k_raft_Node_Term : chkFn Try.prog n_raft_Node_Term ⟨b_raft_Node_Term, [.tmp 2], 9⟩ = true := by kernel_rfl
abbrev n_raft_Node_Tick : Nat := 12
def k_raft_Node_Tick_0 : Cd := (.seq (.reg [] [fi 101 (.mv (.t 99)),
  fi 6 (.mv (.t 101))])
 (.seq (.reg [] [fi 102 (.mv (.t 6)),
  fi 103 (.mv (.t 0)),
  fi 104 (.nilCheck (.t 103)),
  fi 105 (.fieldAddr 1 (.t 104)),
  fi 106 (.load false 1 (.t 105)),
  fi 107 (.bin .neq (.t 102) (.t 106))])
 (.ite (.t 107)
 (.reg [0, 1, 2, 3, 4, 5, 6, 7, 8, 9, 10, 11, 12, 13, 14, 5, 15, 16] [fi 108 (.mv (.t 0)),
  fi 109 (.mv (.t 6)),
  fi 110 (.mv (.t 0)),
  fi 111 (.nilCheck (.t 110)),
  fi 112 (.fieldAddr 5 (.t 111)),
  fi 113 (.load false 1 (.t 112)),
  fi 114 (.len .sl (.t 113)),
  fi 115 (.conv (.int .u64) (.t 114)),
  fi 116 (.mv (.t 0)),
  fi 117 (.mv (.t 0)),
  fi 118 (.nilCheck (.t 117)),
  fi 119 (.fieldAddr 5 (.t 118)),
  fi 120 (.load false 1 (.t 119)),
  fi 121 (.len .sl (.t 120)),
  ei 122 (.call 32 [(.t 116), (.t 121)]),
  .chk 113 none (.load false 1 (.t 112)),
  fi 123 (.build [(.int .u8 0), (.int .u64 0), (.int .u64 0), (.int .u64 0), (.int .u64 0), (.bool false), (.sl [] 0 2 .nil)] [(0, 1, (.c (.int .u8 1))), (2, 1, (.t 115)), (3, 1, (.t 122))]),
  ei 124 (.call 31 [(.t 108), (.t 109), (.t 123)])])
 .skip)))
def l_raft_Node_Tick_0 : Cd := (.seq (.reg [] [fi 100 (.bin .lss (.t 99) (.t 98))])
 (.seq (.ite (.t 100)
 .skip
 (.exit 0))
 (.seq (.blk 1 k_raft_Node_Tick_0)
 (.reg [] [fi 125 (.bin .add (.t 99) (.c (.int .i64 1))),
  fi 99 (.mv (.t 125))]))))
def r_raft_Node_Tick_0 : Cd := (.seq (.reg [] [fi 78 (.mv (.t 0)),
  fi 79 (.mv (.t 0)),
  fi 80 (.nilCheck (.t 79)),
  fi 81 (.fieldAddr 2 (.t 80)),
  fi 82 (.load false 1 (.t 81)),
  ei 83 (.makeSlice 1 1 true [(.bool false)] (.t 82) (.t 82)),
  fi 84 (.nilCheck (.t 78)),
  fi 85 (.fieldAddr 9 (.t 84)),
  st (.store 1 (.t 85) (.t 83))])
 (.seq (.reg [0, 1, 2, 3, 4, 5, 6, 7, 8, 9] [fi 86 (.mv (.t 0)),
  fi 87 (.nilCheck (.t 86)),
  fi 88 (.fieldAddr 9 (.t 87)),
  fi 89 (.load false 1 (.t 88)),
  fi 90 (.mv (.t 0)),
  fi 91 (.nilCheck (.t 90)),
  fi 92 (.fieldAddr 1 (.t 91)),
  fi 93 (.load false 1 (.t 92)),
  fi 94 (.indexAddr 1 (.t 89) (.t 93)),
  st (.store 1 (.t 94) (.c (.bool true)))])
 (.seq (.seq (.reg [] [fi 95 (.mv (.t 0)),
  fi 96 (.nilCheck (.t 95)),
  fi 97 (.fieldAddr 2 (.t 96)),
  fi 98 (.load false 1 (.t 97)),
  fi 99 (.mv (.c (.int .i64 0)))])
 (.blk 0 (.loop l_raft_Node_Tick_0)))
 (.seq (.reg [] [fi 126 (.mv (.t 0)),
  ei 127 (.call 33 [(.t 126)]),
  fi 4 (.mv (.t 127))])
 .ret))))
def r_raft_Node_Tick_1 : Cd := (.seq (.reg [] [fi 48 (.mv (.t 0)),
  ei 49 (.call 28 [(.t 48)])])
 (.seq (.reg [] [fi 50 (.mv (.t 0)),
  fi 51 (.mv (.t 0)),
  fi 52 (.nilCheck (.t 50)),
  fi 53 (.fieldAddr 7 (.t 52)),
  st (.store 1 (.t 53) (.c (.int .u8 1))),
  fi 54 (.nilCheck (.t 51)),
  fi 55 (.fieldAddr 8 (.t 54)),
  st (.store 1 (.t 55) (.c (.int .i64 (-1))))])
 (.seq (.reg [] [fi 56 (.mv (.t 0)),
  fi 57 (.nilCheck (.t 56)),
  fi 58 (.fieldAddr 3 (.t 57)),
  fi 59 (.load false 1 (.t 58)),
  fi 60 (.bin .add (.t 59) (.c (.int .u64 1))),
  fi 61 (.nilCheck (.t 56)),
  fi 62 (.fieldAddr 3 (.t 61)),
  st (.store 1 (.t 62) (.t 60))])
 (.seq (.reg [] [fi 63 (.mv (.t 0)),
  fi 64 (.mv (.t 0)),
  fi 65 (.nilCheck (.t 64)),
  fi 66 (.fieldAddr 1 (.t 65)),
  fi 67 (.load false 1 (.t 66)),
  fi 68 (.nilCheck (.t 63)),
  fi 69 (.fieldAddr 4 (.t 68)),
  st (.store 1 (.t 69) (.t 67))])
 (.seq (.seq (.reg [] [fi 70 (.mv (.t 0)),
  fi 71 (.mv (.t 0)),
  ei 72 (.call 30 [(.t 71)]),
  ei 73 (.buildSlice 1 1 0 [(.sl [] 0 1 .nil)] [(0, 1, (.t 72))]),
  ei 74 (.call 29 [(.t 70), (.t 73)]),
  fi 5 (.mv (.t 74))])
 (.seq (.reg [] [fi 75 (.mv (.t 5)),
  fi 76 (.bin .neq (.t 75) (.c (.int .i64 0)))])
 (.ite (.t 76)
 (.seq (.reg [] [fi 77 (.mv (.t 5)),
  fi 4 (.mv (.t 77))])
 .ret)
 .skip)))
 r_raft_Node_Tick_0)))))
def r_raft_Node_Tick_2 : Cd := (.seq (.seq (.reg [0, 1, 2, 3, 4, 5, 6, 7, 8] [fi 39 (.mv (.t 0)),
  fi 40 (.nilCheck (.t 39)),
  fi 41 (.fieldAddr 12 (.t 40)),
  fi 42 (.load false 1 (.t 41)),
  fi 43 (.mv (.t 0)),
  fi 44 (.nilCheck (.t 43)),
  fi 45 (.fieldAddr 13 (.t 44)),
  fi 46 (.load false 1 (.t 45)),
  fi 47 (.bin .lss (.t 42) (.t 46))])
 (.ite (.t 47)
 (.seq (.reg [] [fi 4 (.mv (.c (.int .i64 0)))])
 .ret)
 .skip))
 r_raft_Node_Tick_1)
def r_raft_Node_Tick_3 : Cd := (.seq (.reg [] [fi 13 (.mv (.t 0)),
  fi 14 (.mv (.t 1)),
  fi 15 (.nilCheck (.t 13)),
  fi 16 (.fieldAddr 14 (.t 15)),
  st (.store 1 (.t 16) (.t 14))])
 (.seq (.reg [] [fi 17 (.mv (.t 0)),
  fi 18 (.nilCheck (.t 17)),
  fi 19 (.fieldAddr 12 (.t 18)),
  fi 20 (.load false 1 (.t 19)),
  fi 21 (.bin .add (.t 20) (.c (.int .i64 1))),
  fi 22 (.nilCheck (.t 17)),
  fi 23 (.fieldAddr 12 (.t 22)),
  st (.store 1 (.t 23) (.t 21))])
 (.seq (.seq (.reg [] [fi 24 (.mv (.t 0)),
  fi 25 (.nilCheck (.t 24)),
  fi 26 (.fieldAddr 7 (.t 25)),
  fi 27 (.load false 1 (.t 26)),
  fi 28 (.bin .eql (.t 27) (.c (.int .u8 2)))])
 (.ite (.t 28)
 (.seq (.seq (.reg [] [fi 29 (.mv (.t 0)),
  fi 30 (.nilCheck (.t 29)),
  fi 31 (.fieldAddr 12 (.t 30)),
  fi 32 (.load false 1 (.t 31)),
  fi 33 (.bin .geq (.t 32) (.c (.int .i64 2)))])
 (.ite (.t 33)
 (.seq (.reg [] [fi 34 (.mv (.t 0)),
  fi 35 (.nilCheck (.t 34)),
  fi 36 (.fieldAddr 12 (.t 35)),
  st (.store 1 (.t 36) (.c (.int .i64 0)))])
 (.reg [] [fi 37 (.mv (.t 0)),
  ei 38 (.call 27 [(.t 37)])]))
 .skip))
 (.seq (.reg [] [fi 4 (.mv (.c (.int .i64 0)))])
 .ret))
 .skip))
 r_raft_Node_Tick_2)))
def r_raft_Node_Tick_4 : Cd := (.seq (.seq (.reg [] [fi 9 (.mv (.t 0)),
  fi 10 (.nilCheck (.t 9)),
  fi 11 (.fieldAddr 16 (.t 10)),
  fi 12 (.load false 1 (.t 11))])
 (.ite (.t 12)
 (.seq (.reg [] [fi 4 (.mv (.c (.int .i64 12)))])
 .ret)
 .skip))
 r_raft_Node_Tick_3)
def b_raft_Node_Tick : Cd := (.seq (.reg [] [fi 4 (.mv (.c (.int .i64 0)))])
 (.seq (.seq (.reg [] [fi 7 (.mv (.t 0)),
  fi 8 (.eq false .ptr (.t 7) (.c (.ptr none)))])
 (.ite (.t 8)
 (.seq (.reg [] [fi 4 (.mv (.c (.int .i64 8)))])
 .ret)
 .skip))
 r_raft_Node_Tick_4))
theorem k_raft_Node_Tick : chkFn Try.prog n_raft_Node_Tick ⟨b_raft_Node_Tick, [.tmp 4], 128⟩ = true := by kernel_rfl
abbrev n_raft_Node_add : Nat := 34
def b_raft_Node_add : Cd := (.seq (.reg [] [fi 4 (.mv (.c (.int .i64 0)))])
 (.seq (.reg [0, 1, 2, 3, 4, 5, 6, 7, 8, 9, 10, 4, 8, 11, 12, 4, 13, 14, 15, 16] [fi 6 (.mv (.t 0)),
  fi 7 (.mv (.t 0)),
  fi 8 (.nilCheck (.t 7)),
  fi 9 (.fieldAddr 5 (.t 8)),
  fi 10 (.load false 1 (.t 9)),
  fi 11 (.mv (.t 0)),
  fi 12 (.nilCheck (.t 11)),
  fi 13 (.fieldAddr 3 (.t 12)),
  fi 14 (.load false 1 (.t 13)),
  fi 15 (.mv (.t 1)),
  ei 16 (.call 35 [(.t 15)]),
  .chk 10 none (.load false 1 (.t 9)),
  .chk 14 none (.load false 1 (.t 13)),
  fi 17 (.build [(.int .u64 0), (.sl [] 0 1 .nil)] [(0, 1, (.t 14)), (1, 1, (.t 16))]),
  ei 18 (.buildSlice 1 2 0 [(.int .u64 0), (.sl [] 0 1 .nil)] [(0, 2, (.t 17))]),
  .chk 10 none (.load false 1 (.t 9)),
  ei 19 (.append 2 32 false (.t 10) (.t 18)),
  fi 20 (.nilCheck (.t 6)),
  fi 21 (.fieldAddr 5 (.t 20)),
  st (.store 1 (.t 21) (.t 19))])
 (.seq (.seq (.reg [] [fi 22 (.mv (.t 0)),
  fi 23 (.mv (.t 0)),
  fi 24 (.mv (.t 0)),
  fi 25 (.nilCheck (.t 24)),
  fi 26 (.fieldAddr 5 (.t 25)),
  fi 27 (.load false 1 (.t 26)),
  fi 28 (.len .sl (.t 27)),
  ei 29 (.call 54 [(.t 23), (.t 28)]),
  ei 30 (.buildSlice 1 1 0 [(.sl [] 0 1 .nil)] [(0, 1, (.t 29))]),
  ei 31 (.call 29 [(.t 22), (.t 30)]),
  fi 5 (.mv (.t 31))])
 (.seq (.reg [] [fi 32 (.mv (.t 5)),
  fi 33 (.bin .neq (.t 32) (.c (.int .i64 0)))])
 (.ite (.t 33)
 (.seq (.reg [] [fi 34 (.mv (.t 5)),
  fi 4 (.mv (.t 34))])
 .ret)
 .skip)))
 (.seq (.reg [] [fi 35 (.mv (.t 0)),
  ei 36 (.call 55 [(.t 35)])])
 (.seq (.reg [] [fi 37 (.mv (.t 0)),
  ei 38 (.call 27 [(.t 37)])])
 (.seq (.reg [] [fi 4 (.mv (.c (.int .i64 0)))])
 .ret))))))
theorem k_raft_Node_add : chkFn Try.prog n_raft_Node_add ⟨b_raft_Node_add, [.tmp 4], 39⟩ = true := by kernel_rfl
abbrev n_raft_Node_advance : Nat := 55
def l_raft_Node_advance_0 : Cd := (.seq (.reg [] [fi 35 (.bin .lss (.t 34) (.t 33))])
 (.seq (.ite (.t 35)
 .skip
 (.exit 2))
 (.seq (.blk 3 (.seq (.reg [] [fi 36 (.mv (.t 34)),
  fi 37 (.indexAddr 1 (.t 32) (.t 34)),
  fi 38 (.load false 1 (.t 37)),
  fi 4 (.mv (.t 36)),
  fi 5 (.mv (.t 38))])
 (.seq (.reg [] [fi 39 (.mv (.t 4)),
  fi 40 (.mv (.t 0)),
  fi 41 (.nilCheck (.t 40)),
  fi 42 (.fieldAddr 1 (.t 41)),
  fi 43 (.load false 1 (.t 42)),
  fi 44 (.bin .neq (.t 39) (.t 43)),
  fi 45 (.mv (.t 44)),
  .run ⟨(some 46), (some (45, true)), .f (.mv (.t 5))⟩,
  .run ⟨(some 47), (some (45, true)), .f (.mv (.t 2))⟩,
  .run ⟨(some 48), (some (45, true)), .f (.bin .geq (.t 46) (.t 47))⟩,
  fi 49 (.pick (.t 45) (.t 48) (.c (.bool false)))])
 (.ite (.t 49)
 (.reg [] [fi 50 (.mv (.t 3)),
  fi 51 (.bin .add (.t 50) (.c (.int .i64 1))),
  fi 3 (.mv (.t 51))])
 .skip))))
 (.reg [] [fi 52 (.bin .add (.t 34) (.c (.int .i64 1))),
  fi 34 (.mv (.t 52))]))))
def s_raft_Node_advance_0 : Cd := (.seq (.reg [] [fi 53 (.mv (.t 3)),
  fi 54 (.bin .mul (.c (.int .i64 2)) (.t 53)),
  fi 55 (.mv (.t 0)),
  fi 56 (.nilCheck (.t 55)),
  fi 57 (.fieldAddr 2 (.t 56)),
  fi 58 (.load false 1 (.t 57)),
  fi 59 (.bin .gtr (.t 54) (.t 58))])
 (.ite (.t 59)
 (.seq (.reg [] [fi 60 (.mv (.t 0)),
  fi 61 (.mv (.t 2)),
  fi 62 (.nilCheck (.t 60)),
  fi 63 (.fieldAddr 6 (.t 62)),
  st (.store 1 (.t 63) (.t 61))])
 .ret)
 .skip))
def l_raft_Node_advance_1 : Cd := (.seq (.seq (.reg [0, 1, 2, 3, 4, 5, 6, 7, 8, 10, 11, 12, 13, 9, 13, 14, 15] [fi 11 (.mv (.t 2)),
  fi 12 (.mv (.t 0)),
  fi 13 (.nilCheck (.t 12)),
  fi 14 (.fieldAddr 6 (.t 13)),
  fi 15 (.load false 1 (.t 14)),
  fi 16 (.bin .gtr (.t 11) (.t 15)),
  fi 17 (.mv (.t 16)),
  .run ⟨(some 18), (some (17, true)), .f (.mv (.t 0))⟩,
  .run ⟨(some 19), (some (17, true)), .f (.mv (.t 2))⟩,
  .run ⟨(some 21), (some (17, true)), .f (.mv (.t 0))⟩,
  .run ⟨(some 22), (some (17, true)), .f (.nilCheck (.t 21))⟩,
  .run ⟨(some 23), (some (17, true)), .f (.fieldAddr 3 (.t 22))⟩,
  .run ⟨(some 24), (some (17, true)), .f (.load false 1 (.t 23))⟩,
  .run ⟨(some 20), (some (17, true)), .e (.call 32 [(.t 18), (.t 19)])⟩,
  .chk 24 (some (17, true)) (.load false 1 (.t 23)),
  .run ⟨(some 25), (some (17, true)), .f (.bin .eql (.t 20) (.t 24))⟩,
  fi 26 (.pick (.t 17) (.t 25) (.c (.bool false)))])
 (.ite (.t 26)
 .skip
 (.exit 0)))
 (.seq (.blk 1 (.seq (.reg [] [fi 3 (.mv (.c (.int .i64 1)))])
 (.seq (.seq (.reg [] [fi 29 (.mv (.t 0)),
  fi 30 (.nilCheck (.t 29)),
  fi 31 (.fieldAddr 11 (.t 30)),
  fi 32 (.load false 1 (.t 31)),
  fi 33 (.len .sl (.t 32)),
  fi 34 (.mv (.c (.int .i64 0)))])
 (.blk 2 (.loop l_raft_Node_advance_0)))
 s_raft_Node_advance_0)))
 (.reg [] [fi 27 (.mv (.t 2)),
  fi 28 (.bin .sub (.t 27) (.c (.int .i64 1))),
  fi 2 (.mv (.t 28))])))
def b_raft_Node_advance : Cd := (.seq (.reg [] [fi 6 (.mv (.t 0)),
  fi 7 (.nilCheck (.t 6)),
  fi 8 (.fieldAddr 5 (.t 7)),
  fi 9 (.load false 1 (.t 8)),
  fi 10 (.len .sl (.t 9)),
  fi 2 (.mv (.t 10))])
 (.blk 0 (.loop l_raft_Node_advance_1)))
theorem k_raft_Node_advance : chkFn Try.prog n_raft_Node_advance ⟨b_raft_Node_advance, [], 64⟩ = true := by kernel_rfl
abbrev n_raft_Node_count : Nat := 33
def l_raft_Node_count_0 : Cd := (.seq (.reg [] [fi 13 (.bin .lss (.t 12) (.t 11))])
 (.seq (.ite (.t 13)
 .skip
 (.exit 0))
 (.seq (.blk 1 (.seq (.reg [] [fi 14 (.indexAddr 1 (.t 10) (.t 12)),
  fi 15 (.load false 1 (.t 14)),
  fi 5 (.mv (.t 15))])
 (.seq (.reg [] [fi 16 (.mv (.t 5))])
 (.ite (.t 16)
 (.reg [] [fi 17 (.mv (.t 3)),
  fi 18 (.bin .add (.t 17) (.c (.int .i64 1))),
  fi 3 (.mv (.t 18))])
 .skip))))
 (.reg [] [fi 19 (.bin .add (.t 12) (.c (.int .i64 1))),
  fi 12 (.mv (.t 19))]))))
def l_raft_Node_count_1 : Cd := (.seq (.reg [] [fi 69 (.bin .lss (.t 68) (.t 67))])
 (.seq (.ite (.t 69)
 .skip
 (.exit 2))
 (.seq (.blk 3 (.seq (.reg [] [fi 70 (.mv (.t 68)),
  fi 6 (.mv (.t 70))])
 (.reg [0, 1, 2, 3, 4, 5, 6, 7, 8, 9, 10, 11, 12] [fi 71 (.mv (.t 0)),
  fi 72 (.nilCheck (.t 71)),
  fi 73 (.fieldAddr 10 (.t 72)),
  fi 74 (.load false 1 (.t 73)),
  fi 75 (.mv (.t 6)),
  fi 76 (.mv (.t 0)),
  fi 77 (.nilCheck (.t 76)),
  fi 78 (.fieldAddr 5 (.t 77)),
  fi 79 (.load false 1 (.t 78)),
  fi 80 (.len .sl (.t 79)),
  fi 81 (.bin .add (.t 80) (.c (.int .i64 1))),
  fi 82 (.indexAddr 1 (.t 74) (.t 75)),
  st (.store 1 (.t 82) (.t 81))])))
 (.reg [] [fi 83 (.bin .add (.t 68) (.c (.int .i64 1))),
  fi 68 (.mv (.t 83))]))))
def r_raft_Node_count_0 : Cd := (.seq (.seq (.reg [] [fi 63 (.mv (.t 0)),
  fi 64 (.nilCheck (.t 63)),
  fi 65 (.fieldAddr 10 (.t 64)),
  fi 66 (.load false 1 (.t 65)),
  fi 67 (.len .sl (.t 66)),
  fi 68 (.mv (.c (.int .i64 0)))])
 (.blk 2 (.loop l_raft_Node_count_1)))
 (.seq (.reg [] [fi 84 (.mv (.t 0)),
  ei 85 (.call 34 [(.t 84), (.c (.sl [] 0 1 .nil))]),
  fi 2 (.mv (.t 85))])
 .ret))
def s_raft_Node_count_0 : Cd := (.seq (.seq (.reg [] [fi 20 (.mv (.t 0)),
  fi 21 (.nilCheck (.t 20)),
  fi 22 (.fieldAddr 7 (.t 21)),
  fi 23 (.load false 1 (.t 22)),
  fi 24 (.bin .neq (.t 23) (.c (.int .u8 1))),
  fi 25 (.mv (.t 24)),
  .run ⟨(some 26), (some (25, false)), .f (.mv (.t 3))⟩,
  .run ⟨(some 27), (some (25, false)), .f (.bin .mul (.c (.int .i64 2)) (.t 26))⟩,
  .run ⟨(some 28), (some (25, false)), .f (.mv (.t 0))⟩,
  .run ⟨(some 29), (some (25, false)), .f (.nilCheck (.t 28))⟩,
  .run ⟨(some 30), (some (25, false)), .f (.fieldAddr 2 (.t 29))⟩,
  .run ⟨(some 31), (some (25, false)), .f (.load false 1 (.t 30))⟩,
  .run ⟨(some 32), (some (25, false)), .f (.bin .leq (.t 27) (.t 31))⟩,
  fi 33 (.pick (.t 25) (.c (.bool true)) (.t 32))])
 (.ite (.t 33)
 (.seq (.reg [] [fi 2 (.mv (.c (.int .i64 0)))])
 .ret)
 .skip))
 (.seq (.reg [] [fi 34 (.mv (.t 0)),
  fi 35 (.mv (.t 0)),
  fi 36 (.mv (.t 0)),
  fi 37 (.mv (.t 0)),
  fi 38 (.nilCheck (.t 37)),
  fi 39 (.fieldAddr 1 (.t 38)),
  fi 40 (.load false 1 (.t 39)),
  fi 41 (.nilCheck (.t 34)),
  fi 42 (.fieldAddr 7 (.t 41)),
  st (.store 1 (.t 42) (.c (.int .u8 2))),
  fi 43 (.nilCheck (.t 35)),
  fi 44 (.fieldAddr 8 (.t 43)),
  st (.store 1 (.t 44) (.t 40)),
  fi 45 (.nilCheck (.t 36)),
  fi 46 (.fieldAddr 12 (.t 45)),
  st (.store 1 (.t 46) (.c (.int .i64 0)))])
 (.seq (.alt 6 11
 (.alt 11 14
 (.reg [0, 1, 2, 3, 4, 5, 7, 8, 9, 10, 6, 10, 12, 13, 11, 14, 15, 16, 17] [fi 47 (.mv (.t 0)),
  fi 48 (.mv (.t 0)),
  fi 49 (.mv (.t 0)),
  fi 50 (.nilCheck (.t 49)),
  fi 51 (.fieldAddr 2 (.t 50)),
  fi 52 (.load false 1 (.t 51)),
  fi 54 (.mv (.t 0)),
  fi 55 (.nilCheck (.t 54)),
  fi 56 (.fieldAddr 2 (.t 55)),
  fi 57 (.load false 1 (.t 56)),
  ei 53 (.makeSlice 1 8 true [(.int .i64 0)] (.t 52) (.t 52)),
  .chk 57 none (.load false 1 (.t 56)),
  fi 59 (.nilCheck (.t 47)),
  fi 60 (.fieldAddr 10 (.t 59)),
  ei 58 (.makeSlice 1 8 true [(.int .i64 0)] (.t 57) (.t 57)),
  st (.store 1 (.t 60) (.t 53)),
  fi 61 (.nilCheck (.t 48)),
  fi 62 (.fieldAddr 11 (.t 61)),
  st (.store 1 (.t 62) (.t 58))])
 (.reg [0, 1, 2, 3, 4, 5, 7, 8, 9, 10, 6, 10, 12, 13, 14, 11, 15, 16, 17] [fi 47 (.mv (.t 0)),
  fi 48 (.mv (.t 0)),
  fi 49 (.mv (.t 0)),
  fi 50 (.nilCheck (.t 49)),
  fi 51 (.fieldAddr 2 (.t 50)),
  fi 52 (.load false 1 (.t 51)),
  fi 54 (.mv (.t 0)),
  fi 55 (.nilCheck (.t 54)),
  fi 56 (.fieldAddr 2 (.t 55)),
  fi 57 (.load false 1 (.t 56)),
  ei 53 (.makeSlice 1 8 true [(.int .i64 0)] (.t 52) (.t 52)),
  .chk 57 none (.load false 1 (.t 56)),
  fi 59 (.nilCheck (.t 47)),
  fi 60 (.fieldAddr 10 (.t 59)),
  st (.store 1 (.t 60) (.t 53)),
  ei 58 (.makeSlice 1 8 true [(.int .i64 0)] (.t 57) (.t 57)),
  fi 61 (.nilCheck (.t 48)),
  fi 62 (.fieldAddr 11 (.t 61)),
  st (.store 1 (.t 62) (.t 58))]))
 (.reg [0, 1, 2, 3, 4, 5, 7, 8, 9, 10, 11, 5, 6, 12, 13, 14, 15, 16, 17] [fi 47 (.mv (.t 0)),
  fi 48 (.mv (.t 0)),
  fi 49 (.mv (.t 0)),
  fi 50 (.nilCheck (.t 49)),
  fi 51 (.fieldAddr 2 (.t 50)),
  fi 52 (.load false 1 (.t 51)),
  fi 54 (.mv (.t 0)),
  fi 55 (.nilCheck (.t 54)),
  fi 56 (.fieldAddr 2 (.t 55)),
  fi 57 (.load false 1 (.t 56)),
  ei 58 (.makeSlice 1 8 true [(.int .i64 0)] (.t 57) (.t 57)),
  .chk 52 none (.load false 1 (.t 51)),
  ei 53 (.makeSlice 1 8 true [(.int .i64 0)] (.t 52) (.t 52)),
  fi 59 (.nilCheck (.t 47)),
  fi 60 (.fieldAddr 10 (.t 59)),
  st (.store 1 (.t 60) (.t 53)),
  fi 61 (.nilCheck (.t 48)),
  fi 62 (.fieldAddr 11 (.t 61)),
  st (.store 1 (.t 62) (.t 58))]))
 r_raft_Node_count_0)))
def b_raft_Node_count : Cd := (.seq (.reg [] [fi 2 (.mv (.c (.int .i64 0)))])
 (.seq (.reg [] [fi 3 (.mv (.c (.int .i64 0)))])
 (.seq (.seq (.reg [] [fi 7 (.mv (.t 0)),
  fi 8 (.nilCheck (.t 7)),
  fi 9 (.fieldAddr 9 (.t 8)),
  fi 10 (.load false 1 (.t 9)),
  fi 11 (.len .sl (.t 10)),
  fi 12 (.mv (.c (.int .i64 0)))])
 (.blk 0 (.loop l_raft_Node_count_0)))
 s_raft_Node_count_0)))
theorem k_raft_Node_count : chkFn Try.prog n_raft_Node_count ⟨b_raft_Node_count, [.tmp 2], 86⟩ = true := by kernel_rfl
abbrev n_raft_Node_fail : Nat := 50
def b_raft_Node_fail : Cd := (.seq (.reg [] [fi 4 (.mv (.c (.int .i64 0)))])
 (.seq (.reg [] [fi 5 (.mv (.t 0)),
  fi 6 (.mv (.t 0)),
  fi 7 (.nilCheck (.t 5)),
  fi 8 (.fieldAddr 16 (.t 7)),
  st (.store 1 (.t 8) (.c (.bool true))),
  fi 9 (.nilCheck (.t 6)),
  fi 10 (.fieldAddr 15 (.t 9)),
  st (.store 1 (.t 10) (.c (.sl [] 0 3 .nil)))])
 (.seq (.reg [] [fi 11 (.mv (.t 1)),
  fi 4 (.mv (.t 11))])
 .ret)))
theorem k_raft_Node_fail : chkFn Try.prog n_raft_Node_fail ⟨b_raft_Node_fail, [.tmp 4], 12⟩ = true := by kernel_rfl
abbrev n_raft_Node_follow : Nat := 57
def b_raft_Node_follow : Cd := (.seq (.reg [] [fi 6 (.mv (.c (.int .i64 0)))])
 (.seq (.reg [] [fi 7 (.mv (.t 0)),
  fi 8 (.mv (.t 0)),
  fi 9 (.mv (.t 2)),
  fi 10 (.nilCheck (.t 7)),
  fi 11 (.fieldAddr 7 (.t 10)),
  st (.store 1 (.t 11) (.c (.int .u8 0))),
  fi 12 (.nilCheck (.t 8)),
  fi 13 (.fieldAddr 8 (.t 12)),
  st (.store 1 (.t 13) (.t 9))])
 (.seq (.seq (.reg [] [fi 14 (.mv (.t 1)),
  fi 15 (.mv (.t 0)),
  fi 16 (.nilCheck (.t 15)),
  fi 17 (.fieldAddr 3 (.t 16)),
  fi 18 (.load false 1 (.t 17)),
  fi 19 (.bin .gtr (.t 14) (.t 18))])
 (.ite (.t 19)
 (.seq (.reg [] [fi 20 (.mv (.t 0)),
  fi 21 (.mv (.t 0)),
  fi 22 (.mv (.t 1)),
  fi 23 (.nilCheck (.t 20)),
  fi 24 (.fieldAddr 3 (.t 23)),
  st (.store 1 (.t 24) (.t 22)),
  fi 25 (.nilCheck (.t 21)),
  fi 26 (.fieldAddr 4 (.t 25)),
  st (.store 1 (.t 26) (.c (.int .i64 (-1))))])
 (.seq (.reg [] [fi 27 (.mv (.t 0)),
  fi 28 (.mv (.t 0)),
  ei 29 (.call 30 [(.t 28)]),
  ei 30 (.buildSlice 1 1 0 [(.sl [] 0 1 .nil)] [(0, 1, (.t 29))]),
  ei 31 (.call 29 [(.t 27), (.t 30)]),
  fi 6 (.mv (.t 31))])
 .ret))
 .skip))
 (.seq (.reg [] [fi 6 (.mv (.c (.int .i64 0)))])
 .ret))))
theorem k_raft_Node_follow : chkFn Try.prog n_raft_Node_follow ⟨b_raft_Node_follow, [.tmp 6], 32⟩ = true := by kernel_rfl
abbrev n_raft_Node_hard : Nat := 30
def b_raft_Node_hard : Cd := (.seq (.reg [] [fi 2 (.mv (.c (.sl [] 0 1 .nil)))])
 (.seq (.reg [] [ei 4 (.buildSlice 1 1 0 [(.int .u8 0)] [(0, 1, (.c (.int .u8 72)))]),
  fi 5 (.mv (.t 0)),
  fi 6 (.nilCheck (.t 5)),
  fi 7 (.fieldAddr 3 (.t 6)),
  fi 8 (.load false 1 (.t 7)),
  ei 9 (.call 52 [(.t 8)]),
  ei 10 (.append 1 1 false (.t 4) (.t 9)),
  fi 3 (.mv (.t 10))])
 (.seq (.reg [] [fi 11 (.mv (.t 3)),
  fi 12 (.mv (.t 0)),
  fi 13 (.nilCheck (.t 12)),
  fi 14 (.fieldAddr 4 (.t 13)),
  fi 15 (.load false 1 (.t 14)),
  fi 16 (.bin .add (.t 15) (.c (.int .i64 1))),
  fi 17 (.conv (.int .u64) (.t 16)),
  ei 18 (.call 52 [(.t 17)]),
  ei 19 (.append 1 1 false (.t 11) (.t 18)),
  fi 2 (.mv (.t 19))])
 .ret)))
theorem k_raft_Node_hard : chkFn Try.prog n_raft_Node_hard ⟨b_raft_Node_hard, [.tmp 2], 20⟩ = true := by kernel_rfl
abbrev n_raft_Node_keep : Nat := 29
def l_raft_Node_keep_0 : Cd := (.seq (.reg [] [fi 12 (.bin .lss (.t 11) (.t 10))])
 (.seq (.ite (.t 12)
 .skip
 (.exit 0))
 (.seq (.blk 1 (.seq (.reg [] [fi 13 (.indexAddr 1 (.t 9) (.t 11)),
  fi 14 (.load false 1 (.t 13)),
  fi 6 (.mv (.t 14))])
 (.seq (.reg [] [fi 15 (.mv (.t 0)),
  fi 16 (.nilCheck (.t 15)),
  fi 17 (.fieldAddr 0 (.t 16)),
  fi 18 (.load false 1 (.t 17)),
  fi 19 (.mv (.t 6)),
  ei 20 (.call 49 [(.t 18), (.t 19)]),
  fi 7 (.mv (.t 20))])
 (.seq (.reg [] [fi 21 (.mv (.t 7)),
  fi 22 (.bin .neq (.t 21) (.c (.int .i64 0)))])
 (.ite (.t 22)
 (.seq (.reg [] [fi 23 (.mv (.t 0)),
  fi 24 (.mv (.t 7)),
  ei 25 (.call 50 [(.t 23), (.t 24)]),
  fi 4 (.mv (.t 25))])
 .ret)
 .skip)))))
 (.reg [] [fi 26 (.bin .add (.t 11) (.c (.int .i64 1))),
  fi 11 (.mv (.t 26))]))))
def s_raft_Node_keep_0 : Cd := (.seq (.seq (.reg [] [fi 27 (.mv (.t 0)),
  fi 28 (.nilCheck (.t 27)),
  fi 29 (.fieldAddr 0 (.t 28)),
  fi 30 (.load false 1 (.t 29)),
  ei 31 (.call 51 [(.t 30)]),
  fi 8 (.mv (.t 31))])
 (.seq (.reg [] [fi 32 (.mv (.t 8)),
  fi 33 (.bin .neq (.t 32) (.c (.int .i64 0)))])
 (.ite (.t 33)
 (.seq (.reg [] [fi 34 (.mv (.t 0)),
  fi 35 (.mv (.t 8)),
  ei 36 (.call 50 [(.t 34), (.t 35)]),
  fi 4 (.mv (.t 36))])
 .ret)
 .skip)))
 (.seq (.reg [] [fi 4 (.mv (.c (.int .i64 0)))])
 .ret))
def b_raft_Node_keep : Cd := (.seq (.reg [] [fi 4 (.mv (.c (.int .i64 0)))])
 (.seq (.seq (.reg [] [fi 9 (.mv (.t 1)),
  fi 10 (.len .sl (.t 9)),
  fi 11 (.mv (.c (.int .i64 0)))])
 (.blk 0 (.loop l_raft_Node_keep_0)))
 s_raft_Node_keep_0))
theorem k_raft_Node_keep : chkFn Try.prog n_raft_Node_keep ⟨b_raft_Node_keep, [.tmp 4], 37⟩ = true := by kernel_rfl
abbrev n_raft_Node_last : Nat := 32
def b_raft_Node_last : Cd := (.seq (.reg [] [fi 4 (.mv (.c (.int .u64 0)))])
 (.seq (.seq (.reg [] [fi 5 (.mv (.t 1)),
  fi 6 (.bin .lss (.t 5) (.c (.int .i64 1))),
  fi 7 (.mv (.t 6)),
  .run ⟨(some 8), (some (7, false)), .f (.mv (.t 1))⟩,
  .run ⟨(some 9), (some (7, false)), .f (.mv (.t 0))⟩,
  .run ⟨(some 10), (some (7, false)), .f (.nilCheck (.t 9))⟩,
  .run ⟨(some 11), (some (7, false)), .f (.fieldAddr 5 (.t 10))⟩,
  .run ⟨(some 12), (some (7, false)), .f (.load false 1 (.t 11))⟩,
  .run ⟨(some 13), (some (7, false)), .f (.len .sl (.t 12))⟩,
  .run ⟨(some 14), (some (7, false)), .f (.bin .gtr (.t 8) (.t 13))⟩,
  fi 15 (.pick (.t 7) (.c (.bool true)) (.t 14))])
 (.ite (.t 15)
 (.seq (.reg [] [fi 4 (.mv (.c (.int .u64 0)))])
 .ret)
 .skip))
 (.seq (.reg [] [fi 16 (.mv (.t 0)),
  fi 17 (.nilCheck (.t 16)),
  fi 18 (.fieldAddr 5 (.t 17)),
  fi 19 (.load false 1 (.t 18)),
  fi 20 (.mv (.t 1)),
  fi 21 (.bin .sub (.t 20) (.c (.int .i64 1))),
  fi 22 (.indexAddr 2 (.t 19) (.t 21)),
  fi 23 (.fieldAddr 0 (.t 22)),
  fi 24 (.load false 1 (.t 23)),
  fi 4 (.mv (.t 24))])
 .ret)))
theorem k_raft_Node_last : chkFn Try.prog n_raft_Node_last ⟨b_raft_Node_last, [.tmp 4], 25⟩ = true := by kernel_rfl
abbrev n_raft_Node_logAsk : Nat := 59
def r_raft_Node_logAsk_0 : Cd := (.seq (.reg [0, 1, 2, 3, 4, 5, 6, 7, 8, 9, 10, 11, 4, 12, 13, 14, 15] [fi 109 (.mv (.t 0)),
  fi 110 (.mv (.t 0)),
  fi 111 (.nilCheck (.t 110)),
  fi 112 (.fieldAddr 5 (.t 111)),
  fi 113 (.load false 1 (.t 112)),
  fi 114 (.mv (.t 11)),
  fi 115 (.bin .sub (.t 114) (.c (.int .i64 1))),
  fi 116 (.mv (.t 11)),
  fi 117 (.bin .sub (.t 116) (.c (.int .i64 1))),
  fi 118 (.slice 2 (.t 113) none (some (.t 115)) (some (.t 117))),
  fi 119 (.load true 2 (.t 10)),
  ei 120 (.buildSlice 1 2 0 [(.int .u64 0), (.sl [] 0 1 .nil)] [(0, 2, (.t 119))]),
  .chk 113 none (.load false 1 (.t 112)),
  ei 121 (.append 2 32 false (.t 118) (.t 120)),
  fi 122 (.nilCheck (.t 109)),
  fi 123 (.fieldAddr 5 (.t 122)),
  st (.store 1 (.t 123) (.t 121))])
 (.reg [] [fi 124 (.mv (.t 8)),
  fi 125 (.mv (.t 0)),
  fi 126 (.mv (.t 11)),
  ei 127 (.call 54 [(.t 125), (.t 126)]),
  ei 128 (.buildSlice 1 1 0 [(.sl [] 0 1 .nil)] [(0, 1, (.t 127))]),
  ei 129 (.append 1 24 false (.t 124) (.t 128)),
  fi 8 (.mv (.t 129))]))
def k_raft_Node_logAsk_0 : Cd := (.seq (.reg [] [fi 85 (.mv (.t 83)),
  fi 86 (.indexAddr 2 (.t 81) (.t 83)),
  fi 87 (.load true 2 (.t 86)),
  ei 10 (.alloc [(.int .u64 0), (.sl [] 0 1 .nil)]),
  fi 9 (.mv (.t 85)),
  st (.store 2 (.t 10) (.t 87))])
 (.seq (.reg [] [fi 88 (.fieldAddr 2 (.t 5)),
  fi 89 (.load false 1 (.t 88)),
  fi 90 (.conv (.int .i64) (.t 89)),
  fi 91 (.mv (.t 9)),
  fi 92 (.bin .add (.t 90) (.t 91)),
  fi 93 (.bin .add (.t 92) (.c (.int .i64 1))),
  fi 11 (.mv (.t 93))])
 (.seq (.seq (.reg [0, 1, 2, 3, 4, 5, 6, 7, 8, 9, 11, 12, 10, 12, 13, 14] [fi 94 (.mv (.t 11)),
  fi 95 (.mv (.t 0)),
  fi 96 (.nilCheck (.t 95)),
  fi 97 (.fieldAddr 5 (.t 96)),
  fi 98 (.load false 1 (.t 97)),
  fi 99 (.len .sl (.t 98)),
  fi 100 (.bin .leq (.t 94) (.t 99)),
  fi 101 (.mv (.t 100)),
  .run ⟨(some 102), (some (101, true)), .f (.mv (.t 0))⟩,
  .run ⟨(some 103), (some (101, true)), .f (.mv (.t 11))⟩,
  .run ⟨(some 105), (some (101, true)), .f (.fieldAddr 0 (.t 10))⟩,
  .run ⟨(some 106), (some (101, true)), .f (.load false 1 (.t 105))⟩,
  .run ⟨(some 104), (some (101, true)), .e (.call 32 [(.t 102), (.t 103)])⟩,
  .chk 106 (some (101, true)) (.load false 1 (.t 105)),
  .run ⟨(some 107), (some (101, true)), .f (.bin .eql (.t 104) (.t 106))⟩,
  fi 108 (.pick (.t 101) (.t 107) (.c (.bool false)))])
 (.ite (.t 108)
 (.exit 1)
 .skip))
 r_raft_Node_logAsk_0)))
def l_raft_Node_logAsk_0 : Cd := (.seq (.reg [] [fi 84 (.bin .lss (.t 83) (.t 82))])
 (.seq (.ite (.t 84)
 .skip
 (.exit 0))
 (.seq (.blk 1 k_raft_Node_logAsk_0)
 (.reg [] [fi 130 (.bin .add (.t 83) (.c (.int .i64 1))),
  fi 83 (.mv (.t 130))]))))
def r_raft_Node_logAsk_1 : Cd := (.seq (.reg [] [fi 140 (.fieldAddr 2 (.t 5)),
  fi 141 (.load false 1 (.t 140)),
  fi 142 (.conv (.int .i64) (.t 141)),
  fi 143 (.fieldAddr 6 (.t 5)),
  fi 144 (.load false 1 (.t 143)),
  fi 145 (.len .sl (.t 144)),
  fi 146 (.bin .add (.t 142) (.t 145)),
  fi 13 (.mv (.t 146))])
 (.seq (.reg [0, 1, 2, 3, 4, 5, 6, 7, 8, 9, 10, 11, 12, 13, 14] [fi 147 (.mv (.t 0)),
  fi 148 (.mv (.t 0)),
  fi 149 (.nilCheck (.t 148)),
  fi 150 (.fieldAddr 6 (.t 149)),
  fi 151 (.load false 1 (.t 150)),
  fi 152 (.fieldAddr 4 (.t 5)),
  fi 153 (.load false 1 (.t 152)),
  fi 154 (.mv (.t 13)),
  fi 155 (.conv (.int .u64) (.t 154)),
  fi 156 (.minmax false [(.t 153), (.t 155)]),
  fi 157 (.conv (.int .i64) (.t 156)),
  fi 158 (.minmax true [(.t 151), (.t 157)]),
  fi 159 (.nilCheck (.t 147)),
  fi 160 (.fieldAddr 6 (.t 159)),
  st (.store 1 (.t 160) (.t 158))])
 (.seq (.reg [] [fi 161 (.mv (.t 0)),
  fi 162 (.mv (.t 1)),
  fi 163 (.mv (.t 13)),
  fi 164 (.conv (.int .u64) (.t 163)),
  fi 165 (.build [(.int .u8 0), (.int .u64 0), (.int .u64 0), (.int .u64 0), (.int .u64 0), (.bool false), (.sl [] 0 2 .nil)] [(0, 1, (.c (.int .u8 4))), (5, 1, (.c (.bool true))), (2, 1, (.t 164))]),
  ei 166 (.call 31 [(.t 161), (.t 162), (.t 165)])])
 (.seq (.reg [] [fi 6 (.mv (.c (.int .i64 0)))])
 .ret))))
def s_raft_Node_logAsk_0 : Cd := (.seq (.seq (.reg [] [fi 131 (.mv (.t 8)),
  fi 132 (.len .sl (.t 131)),
  fi 133 (.bin .gtr (.t 132) (.c (.int .i64 0)))])
 (.ite (.t 133)
 (.seq (.reg [] [fi 134 (.mv (.t 0)),
  fi 135 (.mv (.t 8)),
  ei 136 (.call 29 [(.t 134), (.t 135)]),
  fi 12 (.mv (.t 136))])
 (.seq (.reg [] [fi 137 (.mv (.t 12)),
  fi 138 (.bin .neq (.t 137) (.c (.int .i64 0)))])
 (.ite (.t 138)
 (.seq (.reg [] [fi 139 (.mv (.t 12)),
  fi 6 (.mv (.t 139))])
 .ret)
 .skip)))
 .skip))
 r_raft_Node_logAsk_1)
def r_raft_Node_logAsk_2 : Cd := (.seq (.reg [] [fi 8 (.mv (.c (.sl [] 0 1 .nil)))])
 (.seq (.seq (.reg [] [fi 80 (.fieldAddr 6 (.t 5)),
  fi 81 (.load false 1 (.t 80)),
  fi 82 (.len .sl (.t 81)),
  fi 83 (.mv (.c (.int .i64 0)))])
 (.blk 0 (.loop l_raft_Node_logAsk_0)))
 s_raft_Node_logAsk_0))
def r_raft_Node_logAsk_3 : Cd := (.seq (.reg [] [fi 44 (.mv (.t 0)),
  ei 45 (.call 28 [(.t 44)])])
 (.seq (.seq (.reg [0, 1, 2, 3, 4, 5, 6, 7, 8, 9, 10, 11, 12, 13, 15, 16, 14, 16, 17, 18] [fi 46 (.fieldAddr 2 (.t 5)),
  fi 47 (.load false 1 (.t 46)),
  fi 48 (.mv (.t 0)),
  fi 49 (.nilCheck (.t 48)),
  fi 50 (.fieldAddr 5 (.t 49)),
  fi 51 (.load false 1 (.t 50)),
  fi 52 (.len .sl (.t 51)),
  fi 53 (.conv (.int .u64) (.t 52)),
  fi 54 (.bin .gtr (.t 47) (.t 53)),
  fi 55 (.mv (.t 54)),
  .run ⟨(some 56), (some (55, false)), .f (.mv (.t 0))⟩,
  .run ⟨(some 57), (some (55, false)), .f (.fieldAddr 2 (.t 5))⟩,
  .run ⟨(some 58), (some (55, false)), .f (.load false 1 (.t 57))⟩,
  .run ⟨(some 59), (some (55, false)), .f (.conv (.int .i64) (.t 58))⟩,
  .run ⟨(some 61), (some (55, false)), .f (.fieldAddr 3 (.t 5))⟩,
  .run ⟨(some 62), (some (55, false)), .f (.load false 1 (.t 61))⟩,
  .run ⟨(some 60), (some (55, false)), .e (.call 32 [(.t 56), (.t 59)])⟩,
  .chk 62 (some (55, false)) (.load false 1 (.t 61)),
  .run ⟨(some 63), (some (55, false)), .f (.bin .neq (.t 60) (.t 62))⟩,
  fi 64 (.pick (.t 55) (.c (.bool true)) (.t 63))])
 (.ite (.t 64)
 (.seq (.reg [0, 1, 2, 3, 4, 5, 6, 7, 8, 9, 10, 11, 12, 13, 14] [fi 65 (.mv (.t 0)),
  fi 66 (.mv (.t 1)),
  fi 67 (.mv (.t 0)),
  fi 68 (.nilCheck (.t 67)),
  fi 69 (.fieldAddr 5 (.t 68)),
  fi 70 (.load false 1 (.t 69)),
  fi 71 (.len .sl (.t 70)),
  fi 72 (.conv (.int .u64) (.t 71)),
  fi 73 (.fieldAddr 2 (.t 5)),
  fi 74 (.load false 1 (.t 73)),
  fi 75 (.minmax true [(.t 74), (.c (.int .u64 1))]),
  fi 76 (.bin .sub (.t 75) (.c (.int .u64 1))),
  fi 77 (.minmax false [(.t 72), (.t 76)]),
  fi 78 (.build [(.int .u8 0), (.int .u64 0), (.int .u64 0), (.int .u64 0), (.int .u64 0), (.bool false), (.sl [] 0 2 .nil)] [(0, 1, (.c (.int .u8 4))), (2, 1, (.t 77))]),
  ei 79 (.call 31 [(.t 65), (.t 66), (.t 78)])])
 (.seq (.reg [] [fi 6 (.mv (.c (.int .i64 0)))])
 .ret))
 .skip))
 r_raft_Node_logAsk_2))
def r_raft_Node_logAsk_4 : Cd := (.seq (.seq (.reg [] [fi 36 (.mv (.t 0)),
  fi 37 (.fieldAddr 1 (.t 5)),
  fi 38 (.load false 1 (.t 37)),
  fi 39 (.mv (.t 1)),
  ei 40 (.call 57 [(.t 36), (.t 38), (.t 39)]),
  fi 7 (.mv (.t 40))])
 (.seq (.reg [] [fi 41 (.mv (.t 7)),
  fi 42 (.bin .neq (.t 41) (.c (.int .i64 0)))])
 (.ite (.t 42)
 (.seq (.reg [] [fi 43 (.mv (.t 7)),
  fi 6 (.mv (.t 43))])
 .ret)
 .skip)))
 r_raft_Node_logAsk_3)
def r_raft_Node_logAsk_5 : Cd := (.seq (.seq (.reg [] [fi 31 (.mv (.t 0)),
  fi 32 (.nilCheck (.t 31)),
  fi 33 (.fieldAddr 7 (.t 32)),
  fi 34 (.load false 1 (.t 33)),
  fi 35 (.bin .eql (.t 34) (.c (.int .u8 2)))])
 (.ite (.t 35)
 (.seq (.reg [] [fi 6 (.mv (.c (.int .i64 0)))])
 .ret)
 .skip))
 r_raft_Node_logAsk_4)
def b_raft_Node_logAsk : Cd := (.seq (.reg [] [ei 5 (.box (.t 2)),
  fi 6 (.mv (.c (.int .i64 0)))])
 (.seq (.seq (.reg [0, 1, 2, 3, 4, 5, 6] [fi 14 (.fieldAddr 1 (.t 5)),
  fi 15 (.load false 1 (.t 14)),
  fi 16 (.mv (.t 0)),
  fi 17 (.nilCheck (.t 16)),
  fi 18 (.fieldAddr 3 (.t 17)),
  fi 19 (.load false 1 (.t 18)),
  fi 20 (.bin .lss (.t 15) (.t 19))])
 (.ite (.t 20)
 (.seq (.reg [] [fi 21 (.mv (.t 0)),
  fi 22 (.mv (.t 1)),
  fi 23 (.mv (.t 0)),
  fi 24 (.nilCheck (.t 23)),
  fi 25 (.fieldAddr 5 (.t 24)),
  fi 26 (.load false 1 (.t 25)),
  fi 27 (.len .sl (.t 26)),
  fi 28 (.conv (.int .u64) (.t 27)),
  fi 29 (.build [(.int .u8 0), (.int .u64 0), (.int .u64 0), (.int .u64 0), (.int .u64 0), (.bool false), (.sl [] 0 2 .nil)] [(0, 1, (.c (.int .u8 4))), (2, 1, (.t 28))]),
  ei 30 (.call 31 [(.t 21), (.t 22), (.t 29)])])
 (.seq (.reg [] [fi 6 (.mv (.c (.int .i64 0)))])
 .ret))
 .skip))
 r_raft_Node_logAsk_5))
theorem k_raft_Node_logAsk : chkFn Try.prog n_raft_Node_logAsk ⟨b_raft_Node_logAsk, [.tmp 6], 167⟩ = true := by kernel_rfl
abbrev n_raft_Node_logTell : Nat := 60
def r_raft_Node_logTell_0 : Cd := (.seq (.reg [0, 1, 2, 3, 4, 5, 6, 7, 8, 9, 10, 11, 12, 13, 14, 15] [fi 77 (.mv (.t 0)),
  fi 78 (.nilCheck (.t 77)),
  fi 79 (.fieldAddr 11 (.t 78)),
  fi 80 (.load false 1 (.t 79)),
  fi 81 (.mv (.t 1)),
  fi 82 (.mv (.t 0)),
  fi 83 (.nilCheck (.t 82)),
  fi 84 (.fieldAddr 11 (.t 83)),
  fi 85 (.load false 1 (.t 84)),
  fi 86 (.mv (.t 1)),
  fi 87 (.indexAddr 1 (.t 85) (.t 86)),
  fi 88 (.load false 1 (.t 87)),
  fi 89 (.mv (.t 6)),
  fi 90 (.minmax true [(.t 88), (.t 89)]),
  fi 91 (.indexAddr 1 (.t 80) (.t 81)),
  st (.store 1 (.t 91) (.t 90))])
 (.seq (.reg [0, 1, 2, 3, 4, 5, 6, 7, 8, 9, 10, 11, 12, 13, 14, 15, 16, 17, 18, 19, 20, 21, 22] [fi 92 (.mv (.t 0)),
  fi 93 (.nilCheck (.t 92)),
  fi 94 (.fieldAddr 10 (.t 93)),
  fi 95 (.load false 1 (.t 94)),
  fi 96 (.mv (.t 1)),
  fi 97 (.mv (.t 0)),
  fi 98 (.nilCheck (.t 97)),
  fi 99 (.fieldAddr 10 (.t 98)),
  fi 100 (.load false 1 (.t 99)),
  fi 101 (.mv (.t 1)),
  fi 102 (.indexAddr 1 (.t 100) (.t 101)),
  fi 103 (.load false 1 (.t 102)),
  fi 104 (.mv (.t 0)),
  fi 105 (.nilCheck (.t 104)),
  fi 106 (.fieldAddr 11 (.t 105)),
  fi 107 (.load false 1 (.t 106)),
  fi 108 (.mv (.t 1)),
  fi 109 (.indexAddr 1 (.t 107) (.t 108)),
  fi 110 (.load false 1 (.t 109)),
  fi 111 (.bin .add (.t 110) (.c (.int .i64 1))),
  fi 112 (.minmax true [(.t 103), (.t 111)]),
  fi 113 (.indexAddr 1 (.t 95) (.t 96)),
  st (.store 1 (.t 113) (.t 112))])
 (.seq (.reg [] [fi 114 (.mv (.t 0)),
  fi 115 (.nilCheck (.t 114)),
  fi 116 (.fieldAddr 6 (.t 115)),
  fi 117 (.load false 1 (.t 116)),
  fi 8 (.mv (.t 117))])
 (.seq (.reg [] [fi 118 (.mv (.t 0)),
  ei 119 (.call 55 [(.t 118)])])
 (.seq (.reg [] [fi 120 (.mv (.t 0)),
  fi 121 (.nilCheck (.t 120)),
  fi 122 (.fieldAddr 6 (.t 121)),
  fi 123 (.load false 1 (.t 122)),
  fi 124 (.mv (.t 8)),
  fi 125 (.bin .gtr (.t 123) (.t 124))])
 (.ite (.t 125)
 (.reg [] [fi 126 (.mv (.t 0)),
  ei 127 (.call 27 [(.t 126)])])
 (.seq (.reg [0, 1, 2, 3, 4, 5, 6, 7, 8, 9, 10, 11, 12, 13, 14, 15] [fi 128 (.mv (.t 7)),
  fi 129 (.mv (.t 128)),
  .run ⟨(some 130), (some (129, true)), .f (.mv (.t 0))⟩,
  .run ⟨(some 131), (some (129, true)), .f (.nilCheck (.t 130))⟩,
  .run ⟨(some 132), (some (129, true)), .f (.fieldAddr 10 (.t 131))⟩,
  .run ⟨(some 133), (some (129, true)), .f (.load false 1 (.t 132))⟩,
  .run ⟨(some 134), (some (129, true)), .f (.mv (.t 1))⟩,
  .run ⟨(some 135), (some (129, true)), .f (.indexAddr 1 (.t 133) (.t 134))⟩,
  .run ⟨(some 136), (some (129, true)), .f (.load false 1 (.t 135))⟩,
  .run ⟨(some 137), (some (129, true)), .f (.mv (.t 0))⟩,
  .run ⟨(some 138), (some (129, true)), .f (.nilCheck (.t 137))⟩,
  .run ⟨(some 139), (some (129, true)), .f (.fieldAddr 5 (.t 138))⟩,
  .run ⟨(some 140), (some (129, true)), .f (.load false 1 (.t 139))⟩,
  .run ⟨(some 141), (some (129, true)), .f (.len .sl (.t 140))⟩,
  .run ⟨(some 142), (some (129, true)), .f (.bin .leq (.t 136) (.t 141))⟩,
  fi 143 (.pick (.t 129) (.t 142) (.c (.bool false)))])
 (.ite (.t 143)
 (.reg [] [fi 144 (.mv (.t 0)),
  fi 145 (.mv (.t 1)),
  ei 146 (.call 48 [(.t 144), (.t 145)])])
 .skip))))))))
def r_raft_Node_logTell_1 : Cd := (.seq (.reg [] [fi 68 (.mv (.t 6)),
  fi 69 (.mv (.t 0)),
  fi 70 (.nilCheck (.t 69)),
  fi 71 (.fieldAddr 11 (.t 70)),
  fi 72 (.load false 1 (.t 71)),
  fi 73 (.mv (.t 1)),
  fi 74 (.indexAddr 1 (.t 72) (.t 73)),
  fi 75 (.load false 1 (.t 74)),
  fi 76 (.bin .gtr (.t 68) (.t 75)),
  fi 7 (.mv (.t 76))])
 r_raft_Node_logTell_0)
def r_raft_Node_logTell_2 : Cd := (.seq (.seq (.reg [] [fi 37 (.fieldAddr 5 (.t 5)),
  fi 38 (.load false 1 (.t 37)),
  fi 39 (.un .not (.t 38))])
 (.ite (.t 39)
 (.seq (.reg [0, 1, 2, 3, 4, 5, 6, 7, 8, 9, 10, 11, 12, 13, 14, 15, 16, 17, 18, 19, 20, 21, 22, 23, 24, 25] [fi 40 (.mv (.t 0)),
  fi 41 (.nilCheck (.t 40)),
  fi 42 (.fieldAddr 10 (.t 41)),
  fi 43 (.load false 1 (.t 42)),
  fi 44 (.mv (.t 1)),
  fi 45 (.mv (.t 0)),
  fi 46 (.nilCheck (.t 45)),
  fi 47 (.fieldAddr 11 (.t 46)),
  fi 48 (.load false 1 (.t 47)),
  fi 49 (.mv (.t 1)),
  fi 50 (.indexAddr 1 (.t 48) (.t 49)),
  fi 51 (.load false 1 (.t 50)),
  fi 52 (.mv (.t 0)),
  fi 53 (.nilCheck (.t 52)),
  fi 54 (.fieldAddr 10 (.t 53)),
  fi 55 (.load false 1 (.t 54)),
  fi 56 (.mv (.t 1)),
  fi 57 (.indexAddr 1 (.t 55) (.t 56)),
  fi 58 (.load false 1 (.t 57)),
  fi 59 (.bin .sub (.t 58) (.c (.int .i64 1))),
  fi 60 (.mv (.t 6)),
  fi 61 (.minmax false [(.t 59), (.t 60)]),
  fi 62 (.minmax true [(.t 51), (.t 61)]),
  fi 63 (.bin .add (.t 62) (.c (.int .i64 1))),
  fi 64 (.indexAddr 1 (.t 43) (.t 44)),
  st (.store 1 (.t 64) (.t 63))])
 (.seq (.reg [] [fi 65 (.mv (.t 0)),
  fi 66 (.mv (.t 1)),
  ei 67 (.call 48 [(.t 65), (.t 66)])])
 .ret))
 .skip))
 r_raft_Node_logTell_1)
def b_raft_Node_logTell : Cd := (.seq (.reg [] [ei 5 (.box (.t 2))])
 (.seq (.seq (.reg [0, 1, 2, 3, 4, 5, 6, 7, 8, 9, 10, 11, 12, 13, 14, 15, 16, 17, 18, 19, 20, 21, 22, 23, 24] [fi 9 (.mv (.t 0)),
  fi 10 (.nilCheck (.t 9)),
  fi 11 (.fieldAddr 7 (.t 10)),
  fi 12 (.load false 1 (.t 11)),
  fi 13 (.bin .neq (.t 12) (.c (.int .u8 2))),
  fi 14 (.mv (.t 13)),
  .run ⟨(some 15), (some (14, false)), .f (.fieldAddr 1 (.t 5))⟩,
  .run ⟨(some 16), (some (14, false)), .f (.load false 1 (.t 15))⟩,
  .run ⟨(some 17), (some (14, false)), .f (.mv (.t 0))⟩,
  .run ⟨(some 18), (some (14, false)), .f (.nilCheck (.t 17))⟩,
  .run ⟨(some 19), (some (14, false)), .f (.fieldAddr 3 (.t 18))⟩,
  .run ⟨(some 20), (some (14, false)), .f (.load false 1 (.t 19))⟩,
  .run ⟨(some 21), (some (14, false)), .f (.bin .neq (.t 16) (.t 20))⟩,
  fi 22 (.pick (.t 14) (.c (.bool true)) (.t 21)),
  fi 23 (.mv (.t 22)),
  .run ⟨(some 24), (some (23, false)), .f (.fieldAddr 2 (.t 5))⟩,
  .run ⟨(some 25), (some (23, false)), .f (.load false 1 (.t 24))⟩,
  .run ⟨(some 26), (some (23, false)), .f (.mv (.t 0))⟩,
  .run ⟨(some 27), (some (23, false)), .f (.nilCheck (.t 26))⟩,
  .run ⟨(some 28), (some (23, false)), .f (.fieldAddr 5 (.t 27))⟩,
  .run ⟨(some 29), (some (23, false)), .f (.load false 1 (.t 28))⟩,
  .run ⟨(some 30), (some (23, false)), .f (.len .sl (.t 29))⟩,
  .run ⟨(some 31), (some (23, false)), .f (.conv (.int .u64) (.t 30))⟩,
  .run ⟨(some 32), (some (23, false)), .f (.bin .gtr (.t 25) (.t 31))⟩,
  fi 33 (.pick (.t 23) (.c (.bool true)) (.t 32))])
 (.ite (.t 33)
 .ret
 .skip))
 (.seq (.reg [] [fi 34 (.fieldAddr 2 (.t 5)),
  fi 35 (.load false 1 (.t 34)),
  fi 36 (.conv (.int .i64) (.t 35)),
  fi 6 (.mv (.t 36))])
 r_raft_Node_logTell_2)))
theorem k_raft_Node_logTell : chkFn Try.prog n_raft_Node_logTell ⟨b_raft_Node_logTell, [], 147⟩ = true := by kernel_rfl
abbrev n_raft_Node_record : Nat := 54
def b_raft_Node_record : Cd := (.seq (.reg [] [fi 4 (.mv (.c (.sl [] 0 1 .nil)))])
 (.seq (.reg [] [ei 6 (.buildSlice 1 1 0 [(.int .u8 0)] [(0, 1, (.c (.int .u8 69)))]),
  fi 7 (.mv (.t 1)),
  fi 8 (.conv (.int .u64) (.t 7)),
  ei 9 (.call 52 [(.t 8)]),
  ei 10 (.append 1 1 false (.t 6) (.t 9)),
  fi 5 (.mv (.t 10))])
 (.seq (.reg [] [fi 11 (.mv (.t 5)),
  fi 12 (.mv (.t 0)),
  fi 13 (.nilCheck (.t 12)),
  fi 14 (.fieldAddr 5 (.t 13)),
  fi 15 (.load false 1 (.t 14)),
  fi 16 (.mv (.t 1)),
  fi 17 (.bin .sub (.t 16) (.c (.int .i64 1))),
  fi 18 (.indexAddr 2 (.t 15) (.t 17)),
  fi 19 (.fieldAddr 0 (.t 18)),
  fi 20 (.load false 1 (.t 19)),
  ei 21 (.call 52 [(.t 20)]),
  ei 22 (.append 1 1 false (.t 11) (.t 21)),
  fi 5 (.mv (.t 22))])
 (.seq (.reg [] [fi 23 (.mv (.t 5)),
  fi 24 (.mv (.t 0)),
  fi 25 (.nilCheck (.t 24)),
  fi 26 (.fieldAddr 5 (.t 25)),
  fi 27 (.load false 1 (.t 26)),
  fi 28 (.mv (.t 1)),
  fi 29 (.bin .sub (.t 28) (.c (.int .i64 1))),
  fi 30 (.indexAddr 2 (.t 27) (.t 29)),
  fi 31 (.fieldAddr 1 (.t 30)),
  fi 32 (.load false 1 (.t 31)),
  ei 33 (.append 1 1 false (.t 23) (.t 32)),
  fi 4 (.mv (.t 33))])
 .ret))))
theorem k_raft_Node_record : chkFn Try.prog n_raft_Node_record ⟨b_raft_Node_record, [.tmp 4], 34⟩ = true := by kernel_rfl
abbrev n_raft_Node_replay : Nat := 26
def i_raft_Node_replay_0 : Cd := (.seq (.reg [] [fi 31 (.mv (.t 1)),
  fi 32 (.indexAddr 1 (.t 31) (.c (.int .i64 0))),
  fi 33 (.load false 1 (.t 32)),
  fi 34 (.bin .eql (.t 33) (.c (.int .u8 72))),
  fi 30 (.mv (.t 34))])
 (.ite (.t 30)
 (.seq (.reg [] [fi 35 (.mv (.t 0)),
  fi 36 (.mv (.t 0)),
  fi 37 (.mv (.t 5)),
  fi 38 (.mv (.t 8)),
  fi 39 (.conv (.int .i64) (.t 38)),
  fi 40 (.bin .sub (.t 39) (.c (.int .i64 1))),
  fi 41 (.nilCheck (.t 35)),
  fi 42 (.fieldAddr 3 (.t 41)),
  st (.store 1 (.t 42) (.t 37)),
  fi 43 (.nilCheck (.t 36)),
  fi 44 (.fieldAddr 4 (.t 43)),
  st (.store 1 (.t 44) (.t 40))])
 (.seq (.reg [0, 1, 2, 3, 4, 5, 6, 7, 8, 9, 10, 11, 12, 13, 14, 15] [fi 45 (.mv (.t 6)),
  fi 46 (.mv (.t 1)),
  fi 47 (.len .sl (.t 46)),
  fi 48 (.bin .eql (.t 45) (.t 47)),
  fi 49 (.mv (.t 48)),
  .run ⟨(some 50), (some (49, true)), .f (.mv (.t 0))⟩,
  .run ⟨(some 51), (some (49, true)), .f (.nilCheck (.t 50))⟩,
  .run ⟨(some 52), (some (49, true)), .f (.fieldAddr 4 (.t 51))⟩,
  .run ⟨(some 53), (some (49, true)), .f (.load false 1 (.t 52))⟩,
  .run ⟨(some 54), (some (49, true)), .f (.mv (.t 0))⟩,
  .run ⟨(some 55), (some (49, true)), .f (.nilCheck (.t 54))⟩,
  .run ⟨(some 56), (some (49, true)), .f (.fieldAddr 2 (.t 55))⟩,
  .run ⟨(some 57), (some (49, true)), .f (.load false 1 (.t 56))⟩,
  .run ⟨(some 58), (some (49, true)), .f (.bin .lss (.t 53) (.t 57))⟩,
  fi 59 (.pick (.t 49) (.t 58) (.c (.bool false))),
  fi 4 (.mv (.t 59))])
 .ret))
 (.seq (.reg [] [fi 61 (.mv (.t 1)),
  fi 62 (.indexAddr 1 (.t 61) (.c (.int .i64 0))),
  fi 63 (.load false 1 (.t 62)),
  fi 64 (.bin .eql (.t 63) (.c (.int .u8 69))),
  fi 65 (.mv (.t 64)),
  .run ⟨(some 66), (some (65, true)), .f (.mv (.t 5))⟩,
  .run ⟨(some 67), (some (65, true)), .f (.bin .geq (.t 66) (.c (.int .u64 1)))⟩,
  fi 68 (.pick (.t 65) (.t 67) (.c (.bool false))),
  fi 69 (.mv (.t 68)),
  .run ⟨(some 70), (some (69, true)), .f (.mv (.t 5))⟩,
  .run ⟨(some 71), (some (69, true)), .f (.mv (.t 0))⟩,
  .run ⟨(some 72), (some (69, true)), .f (.nilCheck (.t 71))⟩,
  .run ⟨(some 73), (some (69, true)), .f (.fieldAddr 5 (.t 72))⟩,
  .run ⟨(some 74), (some (69, true)), .f (.load false 1 (.t 73))⟩,
  .run ⟨(some 75), (some (69, true)), .f (.len .sl (.t 74))⟩,
  .run ⟨(some 76), (some (69, true)), .f (.conv (.int .u64) (.t 75))⟩,
  .run ⟨(some 77), (some (69, true)), .f (.bin .add (.t 76) (.c (.int .u64 1)))⟩,
  .run ⟨(some 78), (some (69, true)), .f (.bin .leq (.t 70) (.t 77))⟩,
  fi 79 (.pick (.t 69) (.t 78) (.c (.bool false))),
  fi 60 (.mv (.t 79))])
 (.ite (.t 60)
 (.seq (.reg [0, 1, 2, 3, 4, 5, 6, 7, 8, 9, 10, 11, 12, 13, 14, 4, 15, 16, 4, 17, 18, 19, 20] [fi 80 (.mv (.t 0)),
  fi 81 (.mv (.t 0)),
  fi 82 (.nilCheck (.t 81)),
  fi 83 (.fieldAddr 5 (.t 82)),
  fi 84 (.load false 1 (.t 83)),
  fi 85 (.mv (.t 5)),
  fi 86 (.bin .sub (.t 85) (.c (.int .u64 1))),
  fi 87 (.mv (.t 5)),
  fi 88 (.bin .sub (.t 87) (.c (.int .u64 1))),
  fi 89 (.slice 2 (.t 84) none (some (.t 86)) (some (.t 88))),
  fi 90 (.mv (.t 8)),
  fi 91 (.mv (.t 1)),
  fi 92 (.mv (.t 6)),
  fi 93 (.slice 1 (.t 91) (some (.t 92)) none none),
  ei 94 (.call 35 [(.t 93)]),
  .chk 84 none (.load false 1 (.t 83)),
  fi 95 (.build [(.int .u64 0), (.sl [] 0 1 .nil)] [(0, 1, (.t 90)), (1, 1, (.t 94))]),
  ei 96 (.buildSlice 1 2 0 [(.int .u64 0), (.sl [] 0 1 .nil)] [(0, 2, (.t 95))]),
  .chk 84 none (.load false 1 (.t 83)),
  ei 97 (.append 2 32 false (.t 89) (.t 96)),
  fi 98 (.nilCheck (.t 80)),
  fi 99 (.fieldAddr 5 (.t 98)),
  st (.store 1 (.t 99) (.t 97))])
 (.seq (.reg [] [fi 4 (.mv (.c (.bool true)))])
 .ret))
 .skip))))
def b_raft_Node_replay : Cd := (.seq (.reg [] [fi 4 (.mv (.c (.bool false)))])
 (.seq (.seq (.reg [] [fi 9 (.mv (.t 1)),
  fi 10 (.len .sl (.t 9)),
  fi 11 (.bin .eql (.t 10) (.c (.int .i64 0)))])
 (.ite (.t 11)
 (.seq (.reg [] [fi 4 (.mv (.c (.bool false)))])
 .ret)
 .skip))
 (.seq (.reg [] [fi 13 (.mv (.t 1)),
  ei 14 (.call 47 [(.t 13), (.c (.int .i64 1))]),
  fi 12 (.mv (.t 14)),
  fi 15 (.extract (.t 12) 0),
  fi 16 (.extract (.t 12) 1),
  fi 17 (.extract (.t 12) 2),
  fi 5 (.mv (.t 15)),
  fi 6 (.mv (.t 16)),
  fi 7 (.mv (.t 17))])
 (.seq (.seq (.reg [] [fi 18 (.mv (.t 7)),
  fi 19 (.bin .neq (.t 18) (.c (.int .i64 0)))])
 (.ite (.t 19)
 (.seq (.reg [] [fi 4 (.mv (.c (.bool false)))])
 .ret)
 .skip))
 (.seq (.reg [] [fi 21 (.mv (.t 1)),
  fi 22 (.mv (.t 6)),
  ei 23 (.call 47 [(.t 21), (.t 22)]),
  fi 20 (.mv (.t 23)),
  fi 24 (.extract (.t 20) 0),
  fi 25 (.extract (.t 20) 1),
  fi 26 (.extract (.t 20) 2),
  fi 8 (.mv (.t 24)),
  fi 6 (.mv (.t 25)),
  fi 7 (.mv (.t 26))])
 (.seq (.blk 0 (.seq (.reg [] [fi 28 (.mv (.t 7)),
  fi 29 (.bin .neq (.t 28) (.c (.int .i64 0))),
  fi 27 (.mv (.t 29))])
 (.ite (.t 27)
 (.seq (.reg [] [fi 4 (.mv (.c (.bool false)))])
 .ret)
 i_raft_Node_replay_0)))
 (.seq (.reg [] [fi 4 (.mv (.c (.bool false)))])
 .ret)))))))
theorem k_raft_Node_replay : chkFn Try.prog n_raft_Node_replay ⟨b_raft_Node_replay, [.tmp 4], 100⟩ = true := by kernel_rfl
abbrev n_raft_Node_rest : Nat := 28
def b_raft_Node_rest : Cd := (.reg [] [fi 2 (.mv (.t 0)),
  fi 3 (.mv (.t 0)),
  fi 4 (.mv (.t 0)),
  fi 5 (.nilCheck (.t 4)),
  fi 6 (.fieldAddr 14 (.t 5)),
  fi 7 (.load false 1 (.t 6)),
  fi 8 (.bin .rem (.t 7) (.c (.int .u64 10))),
  fi 9 (.conv (.int .i64) (.t 8)),
  fi 10 (.bin .add (.c (.int .i64 10)) (.t 9)),
  fi 11 (.nilCheck (.t 2)),
  fi 12 (.fieldAddr 12 (.t 11)),
  st (.store 1 (.t 12) (.c (.int .i64 0))),
  fi 13 (.nilCheck (.t 3)),
  fi 14 (.fieldAddr 13 (.t 13)),
  st (.store 1 (.t 14) (.t 10))])
theorem k_raft_Node_rest : chkFn Try.prog n_raft_Node_rest ⟨b_raft_Node_rest, [], 15⟩ = true := by kernel_rfl
abbrev n_raft_Node_send : Nat := 31
def b_raft_Node_send : Cd := (.seq (.reg [] [ei 5 (.box (.t 2))])
 (.seq (.reg [] [fi 6 (.mv (.t 0)),
  fi 7 (.nilCheck (.t 6)),
  fi 8 (.fieldAddr 3 (.t 7)),
  fi 9 (.load false 1 (.t 8)),
  fi 10 (.fieldAddr 1 (.t 5)),
  st (.store 1 (.t 10) (.t 9))])
 (.reg [0, 1, 2, 3, 4, 5, 6, 7, 8, 9, 10, 11, 4, 8, 12, 13, 4, 14, 15, 16, 17] [fi 11 (.mv (.t 0)),
  fi 12 (.mv (.t 0)),
  fi 13 (.nilCheck (.t 12)),
  fi 14 (.fieldAddr 15 (.t 13)),
  fi 15 (.load false 1 (.t 14)),
  fi 16 (.mv (.t 0)),
  fi 17 (.nilCheck (.t 16)),
  fi 18 (.fieldAddr 1 (.t 17)),
  fi 19 (.load false 1 (.t 18)),
  fi 20 (.mv (.t 1)),
  fi 21 (.load true 7 (.t 5)),
  ei 22 (.call 53 [(.t 21)]),
  .chk 15 none (.load false 1 (.t 14)),
  .chk 19 none (.load false 1 (.t 18)),
  fi 23 (.build [(.int .i64 0), (.int .i64 0), (.sl [] 0 1 .nil)] [(0, 1, (.t 19)), (1, 1, (.t 20)), (2, 1, (.t 22))]),
  ei 24 (.buildSlice 1 3 0 [(.int .i64 0), (.int .i64 0), (.sl [] 0 1 .nil)] [(0, 3, (.t 23))]),
  .chk 15 none (.load false 1 (.t 14)),
  ei 25 (.append 3 40 false (.t 15) (.t 24)),
  fi 26 (.nilCheck (.t 11)),
  fi 27 (.fieldAddr 15 (.t 26)),
  st (.store 1 (.t 27) (.t 25))])))
theorem k_raft_Node_send : chkFn Try.prog n_raft_Node_send ⟨b_raft_Node_send, [], 28⟩ = true := by kernel_rfl
abbrev n_raft_Node_tell : Nat := 27
def l_raft_Node_tell_0 : Cd := (.seq (.reg [] [fi 8 (.bin .lss (.t 7) (.t 6))])
 (.seq (.ite (.t 8)
 .skip
 (.exit 0))
 (.seq (.blk 1 (.seq (.reg [] [fi 9 (.mv (.t 7)),
  fi 2 (.mv (.t 9))])
 (.seq (.reg [] [fi 10 (.mv (.t 2)),
  fi 11 (.mv (.t 0)),
  fi 12 (.nilCheck (.t 11)),
  fi 13 (.fieldAddr 1 (.t 12)),
  fi 14 (.load false 1 (.t 13)),
  fi 15 (.bin .neq (.t 10) (.t 14))])
 (.ite (.t 15)
 (.reg [] [fi 16 (.mv (.t 0)),
  fi 17 (.mv (.t 2)),
  ei 18 (.call 48 [(.t 16), (.t 17)])])
 .skip))))
 (.reg [] [fi 19 (.bin .add (.t 7) (.c (.int .i64 1))),
  fi 7 (.mv (.t 19))]))))
def b_raft_Node_tell : Cd := (.seq (.reg [] [fi 3 (.mv (.t 0)),
  fi 4 (.nilCheck (.t 3)),
  fi 5 (.fieldAddr 2 (.t 4)),
  fi 6 (.load false 1 (.t 5)),
  fi 7 (.mv (.c (.int .i64 0)))])
 (.blk 0 (.loop l_raft_Node_tell_0)))
theorem k_raft_Node_tell : chkFn Try.prog n_raft_Node_tell ⟨b_raft_Node_tell, [], 20⟩ = true := by kernel_rfl
abbrev n_raft_Node_tellOne : Nat := 48
def r_raft_Node_tellOne_0 : Cd := (.seq (.reg [0, 1, 2, 3, 4, 5, 6, 7, 8, 9, 10, 11, 12, 13, 14, 15] [fi 25 (.mv (.t 0)),
  fi 26 (.nilCheck (.t 25)),
  fi 27 (.fieldAddr 5 (.t 26)),
  fi 28 (.load false 1 (.t 27)),
  fi 29 (.mv (.t 4)),
  fi 30 (.mv (.t 0)),
  fi 31 (.nilCheck (.t 30)),
  fi 32 (.fieldAddr 5 (.t 31)),
  fi 33 (.load false 1 (.t 32)),
  fi 34 (.len .sl (.t 33)),
  fi 35 (.mv (.t 4)),
  fi 36 (.bin .add (.t 35) (.c (.int .i64 16))),
  fi 37 (.minmax false [(.t 34), (.t 36)]),
  fi 38 (.slice 2 (.t 28) (some (.t 29)) (some (.t 37)) none),
  fi 39 (.fieldAddr 6 (.t 5)),
  st (.store 1 (.t 39) (.t 38))])
 (.reg [] [fi 40 (.mv (.t 0)),
  fi 41 (.mv (.t 1)),
  fi 42 (.load true 7 (.t 5)),
  ei 43 (.call 31 [(.t 40), (.t 41), (.t 42)])]))
def b_raft_Node_tellOne : Cd := (.seq (.reg [] [fi 6 (.mv (.t 0)),
  fi 7 (.nilCheck (.t 6)),
  fi 8 (.fieldAddr 10 (.t 7)),
  fi 9 (.load false 1 (.t 8)),
  fi 10 (.mv (.t 1)),
  fi 11 (.indexAddr 1 (.t 9) (.t 10)),
  fi 12 (.load false 1 (.t 11)),
  fi 13 (.bin .sub (.t 12) (.c (.int .i64 1))),
  fi 4 (.mv (.t 13))])
 (.seq (.alt 4 11
 (.reg [0, 1, 2, 3, 5, 6, 7, 8, 9, 4, 8, 10, 11, 8, 12] [fi 14 (.mv (.t 4)),
  fi 15 (.conv (.int .u64) (.t 14)),
  fi 16 (.mv (.t 0)),
  fi 17 (.mv (.t 4)),
  fi 19 (.mv (.t 0)),
  fi 20 (.nilCheck (.t 19)),
  fi 21 (.fieldAddr 6 (.t 20)),
  fi 22 (.load false 1 (.t 21)),
  fi 23 (.conv (.int .u64) (.t 22)),
  ei 18 (.call 32 [(.t 16), (.t 17)]),
  .chk 22 none (.load false 1 (.t 21)),
  fi 24 (.build [(.int .u8 0), (.int .u64 0), (.int .u64 0), (.int .u64 0), (.int .u64 0), (.bool false), (.sl [] 0 2 .nil)] [(0, 1, (.c (.int .u8 3))), (2, 1, (.t 15)), (3, 1, (.t 18)), (4, 1, (.t 23))]),
  ei 5 (.alloc [(.int .u8 0), (.int .u64 0), (.int .u64 0), (.int .u64 0), (.int .u64 0), (.bool false), (.sl [] 0 2 .nil)]),
  .chk 22 none (.load false 1 (.t 21)),
  st (.store 7 (.t 5) (.t 24))])
 (.reg [0, 1, 2, 3, 5, 6, 7, 8, 9, 11, 8, 4, 8, 10, 12] [fi 14 (.mv (.t 4)),
  fi 15 (.conv (.int .u64) (.t 14)),
  fi 16 (.mv (.t 0)),
  fi 17 (.mv (.t 4)),
  fi 19 (.mv (.t 0)),
  fi 20 (.nilCheck (.t 19)),
  fi 21 (.fieldAddr 6 (.t 20)),
  fi 22 (.load false 1 (.t 21)),
  fi 23 (.conv (.int .u64) (.t 22)),
  ei 5 (.alloc [(.int .u8 0), (.int .u64 0), (.int .u64 0), (.int .u64 0), (.int .u64 0), (.bool false), (.sl [] 0 2 .nil)]),
  .chk 22 none (.load false 1 (.t 21)),
  ei 18 (.call 32 [(.t 16), (.t 17)]),
  .chk 22 none (.load false 1 (.t 21)),
  fi 24 (.build [(.int .u8 0), (.int .u64 0), (.int .u64 0), (.int .u64 0), (.int .u64 0), (.bool false), (.sl [] 0 2 .nil)] [(0, 1, (.c (.int .u8 3))), (2, 1, (.t 15)), (3, 1, (.t 18)), (4, 1, (.t 23))]),
  st (.store 7 (.t 5) (.t 24))]))
 r_raft_Node_tellOne_0))
theorem k_raft_Node_tellOne : chkFn Try.prog n_raft_Node_tellOne ⟨b_raft_Node_tellOne, [], 44⟩ = true := by kernel_rfl
abbrev n_raft_Node_voteAsk : Nat := 58
def r_raft_Node_voteAsk_0 : Cd := (.seq (.reg [] [fi 90 (.mv (.t 0)),
  fi 91 (.mv (.t 1)),
  fi 92 (.mv (.t 9)),
  fi 93 (.build [(.int .u8 0), (.int .u64 0), (.int .u64 0), (.int .u64 0), (.int .u64 0), (.bool false), (.sl [] 0 2 .nil)] [(0, 1, (.c (.int .u8 2))), (5, 1, (.t 92))]),
  ei 94 (.call 31 [(.t 90), (.t 91), (.t 93)])])
 (.seq (.reg [] [fi 6 (.mv (.c (.int .i64 0)))])
 .ret))
def r_raft_Node_voteAsk_1 : Cd := (.seq (.seq (.reg [] [fi 70 (.mv (.t 9))])
 (.ite (.t 70)
 (.seq (.reg [] [fi 71 (.mv (.t 0)),
  ei 72 (.call 28 [(.t 71)])])
 (.seq (.reg [] [fi 73 (.mv (.t 0)),
  fi 74 (.nilCheck (.t 73)),
  fi 75 (.fieldAddr 4 (.t 74)),
  fi 76 (.load false 1 (.t 75)),
  fi 77 (.bin .lss (.t 76) (.c (.int .i64 0)))])
 (.ite (.t 77)
 (.seq (.reg [] [fi 78 (.mv (.t 0)),
  fi 79 (.mv (.t 1)),
  fi 80 (.nilCheck (.t 78)),
  fi 81 (.fieldAddr 4 (.t 80)),
  st (.store 1 (.t 81) (.t 79))])
 (.seq (.reg [] [fi 82 (.mv (.t 0)),
  fi 83 (.mv (.t 0)),
  ei 84 (.call 30 [(.t 83)]),
  ei 85 (.buildSlice 1 1 0 [(.sl [] 0 1 .nil)] [(0, 1, (.t 84))]),
  ei 86 (.call 29 [(.t 82), (.t 85)]),
  fi 10 (.mv (.t 86))])
 (.seq (.reg [] [fi 87 (.mv (.t 10)),
  fi 88 (.bin .neq (.t 87) (.c (.int .i64 0)))])
 (.ite (.t 88)
 (.seq (.reg [] [fi 89 (.mv (.t 10)),
  fi 6 (.mv (.t 89))])
 .ret)
 .skip))))
 .skip)))
 .skip))
 r_raft_Node_voteAsk_0)
def r_raft_Node_voteAsk_2 : Cd := (.seq (.reg [0, 1, 2, 3, 4, 5, 6, 7, 8, 9, 10, 11, 12, 13, 14, 15, 16, 17, 18, 19, 20, 21, 22, 23, 24, 25] [fi 45 (.fieldAddr 1 (.t 5)),
  fi 46 (.load false 1 (.t 45)),
  fi 47 (.mv (.t 0)),
  fi 48 (.nilCheck (.t 47)),
  fi 49 (.fieldAddr 3 (.t 48)),
  fi 50 (.load false 1 (.t 49)),
  fi 51 (.bin .eql (.t 46) (.t 50)),
  fi 52 (.mv (.t 51)),
  .run ⟨(some 53), (some (52, true)), .f (.mv (.t 0))⟩,
  .run ⟨(some 54), (some (52, true)), .f (.nilCheck (.t 53))⟩,
  .run ⟨(some 55), (some (52, true)), .f (.fieldAddr 4 (.t 54))⟩,
  .run ⟨(some 56), (some (52, true)), .f (.load false 1 (.t 55))⟩,
  .run ⟨(some 57), (some (52, true)), .f (.bin .lss (.t 56) (.c (.int .i64 0)))⟩,
  .run ⟨(some 58), (some (52, true)), .f (.mv (.t 57))⟩,
  .run ⟨(some 59), (some (58, false)), .f (.mv (.t 0))⟩,
  .run ⟨(some 60), (some (58, false)), .f (.nilCheck (.t 59))⟩,
  .run ⟨(some 61), (some (58, false)), .f (.fieldAddr 4 (.t 60))⟩,
  .run ⟨(some 62), (some (58, false)), .f (.load false 1 (.t 61))⟩,
  .run ⟨(some 63), (some (58, false)), .f (.mv (.t 1))⟩,
  .run ⟨(some 64), (some (58, false)), .f (.bin .eql (.t 62) (.t 63))⟩,
  .run ⟨(some 65), (some (52, true)), .f (.pick (.t 58) (.c (.bool true)) (.t 64))⟩,
  fi 66 (.pick (.t 52) (.t 65) (.c (.bool false))),
  fi 67 (.mv (.t 66)),
  .run ⟨(some 68), (some (67, true)), .f (.mv (.t 8))⟩,
  fi 69 (.pick (.t 67) (.t 68) (.c (.bool false))),
  fi 9 (.mv (.t 69))])
 r_raft_Node_voteAsk_1)
def b_raft_Node_voteAsk : Cd := (.seq (.reg [] [ei 5 (.box (.t 2)),
  fi 6 (.mv (.c (.int .i64 0)))])
 (.seq (.reg [] [fi 11 (.mv (.t 0)),
  fi 12 (.nilCheck (.t 11)),
  fi 13 (.fieldAddr 5 (.t 12)),
  fi 14 (.load false 1 (.t 13)),
  fi 15 (.len .sl (.t 14)),
  fi 16 (.conv (.int .u64) (.t 15)),
  fi 7 (.mv (.t 16))])
 (.seq (.reg [0, 1, 2, 3, 4, 5, 6, 7, 8, 1, 9, 10, 11, 12, 13, 14, 15, 16, 17, 18, 19, 12, 20, 21, 22, 23, 24, 25, 26, 27, 28] [fi 17 (.fieldAddr 3 (.t 5)),
  fi 18 (.load false 1 (.t 17)),
  fi 19 (.mv (.t 0)),
  fi 20 (.mv (.t 0)),
  fi 21 (.nilCheck (.t 20)),
  fi 22 (.fieldAddr 5 (.t 21)),
  fi 23 (.load false 1 (.t 22)),
  fi 24 (.len .sl (.t 23)),
  ei 25 (.call 32 [(.t 19), (.t 24)]),
  .chk 18 none (.load false 1 (.t 17)),
  fi 26 (.bin .gtr (.t 18) (.t 25)),
  fi 27 (.mv (.t 26)),
  .run ⟨(some 28), (some (27, false)), .f (.fieldAddr 3 (.t 5))⟩,
  .run ⟨(some 29), (some (27, false)), .f (.load false 1 (.t 28))⟩,
  .run ⟨(some 30), (some (27, false)), .f (.mv (.t 0))⟩,
  .run ⟨(some 31), (some (27, false)), .f (.mv (.t 0))⟩,
  .run ⟨(some 32), (some (27, false)), .f (.nilCheck (.t 31))⟩,
  .run ⟨(some 33), (some (27, false)), .f (.fieldAddr 5 (.t 32))⟩,
  .run ⟨(some 34), (some (27, false)), .f (.load false 1 (.t 33))⟩,
  .run ⟨(some 35), (some (27, false)), .f (.len .sl (.t 34))⟩,
  .run ⟨(some 36), (some (27, false)), .e (.call 32 [(.t 30), (.t 35)])⟩,
  .chk 29 (some (27, false)) (.load false 1 (.t 28)),
  .run ⟨(some 37), (some (27, false)), .f (.bin .eql (.t 29) (.t 36))⟩,
  .run ⟨(some 38), (some (27, false)), .f (.mv (.t 37))⟩,
  .run ⟨(some 39), (some (38, true)), .f (.fieldAddr 2 (.t 5))⟩,
  .run ⟨(some 40), (some (38, true)), .f (.load false 1 (.t 39))⟩,
  .run ⟨(some 41), (some (38, true)), .f (.mv (.t 7))⟩,
  .run ⟨(some 42), (some (38, true)), .f (.bin .geq (.t 40) (.t 41))⟩,
  .run ⟨(some 43), (some (27, false)), .f (.pick (.t 38) (.t 42) (.c (.bool false)))⟩,
  fi 44 (.pick (.t 27) (.c (.bool true)) (.t 43)),
  fi 8 (.mv (.t 44))])
 r_raft_Node_voteAsk_2)))
theorem k_raft_Node_voteAsk : chkFn Try.prog n_raft_Node_voteAsk ⟨b_raft_Node_voteAsk, [.tmp 6], 95⟩ = true := by kernel_rfl
abbrev n_raft_Open : Nat := 10
def l_raft_Open_0 : Cd := (.seq (.reg [] [fi 45 (.bin .lss (.t 44) (.t 43))])
 (.seq (.ite (.t 45)
 .skip
 (.exit 0))
 (.seq (.blk 1 (.seq (.reg [] [fi 46 (.mv (.t 44)),
  fi 11 (.mv (.t 46))])
 (.seq (.reg [] [fi 48 (.mv (.t 8)),
  fi 49 (.mv (.t 11)),
  ei 50 (.call 25 [(.t 48), (.t 49)]),
  fi 47 (.mv (.t 50)),
  fi 51 (.extract (.t 47) 0),
  fi 52 (.extract (.t 47) 1),
  fi 12 (.mv (.t 51)),
  fi 13 (.mv (.t 52))])
 (.seq (.reg [] [fi 53 (.mv (.t 10)),
  fi 54 (.mv (.t 12)),
  ei 55 (.call 26 [(.t 53), (.t 54)]),
  fi 56 (.un .not (.t 55))])
 (.ite (.t 56)
 (.seq (.reg [] [fi 6 (.mv (.c (.ptr none))),
  fi 7 (.mv (.c (.int .i64 3)))])
 .ret)
 .skip)))))
 (.reg [] [fi 57 (.bin .add (.t 44) (.c (.int .i64 1))),
  fi 44 (.mv (.t 57))]))))
def b_raft_Open : Cd := (.seq (.reg [] [fi 6 (.mv (.c (.ptr none))),
  fi 7 (.mv (.c (.int .i64 0)))])
 (.seq (.seq (.reg [] [fi 14 (.mv (.t 2)),
  fi 15 (.bin .lss (.t 14) (.c (.int .i64 1))),
  fi 16 (.mv (.t 15)),
  .run ⟨(some 17), (some (16, false)), .f (.mv (.t 2))⟩,
  .run ⟨(some 18), (some (16, false)), .f (.bin .gtr (.t 17) (.c (.int .i64 5)))⟩,
  fi 19 (.pick (.t 16) (.c (.bool true)) (.t 18)),
  fi 20 (.mv (.t 19)),
  .run ⟨(some 21), (some (20, false)), .f (.mv (.t 1))⟩,
  .run ⟨(some 22), (some (20, false)), .f (.bin .lss (.t 21) (.c (.int .i64 0)))⟩,
  fi 23 (.pick (.t 20) (.c (.bool true)) (.t 22)),
  fi 24 (.mv (.t 23)),
  .run ⟨(some 25), (some (24, false)), .f (.mv (.t 1))⟩,
  .run ⟨(some 26), (some (24, false)), .f (.mv (.t 2))⟩,
  .run ⟨(some 27), (some (24, false)), .f (.bin .geq (.t 25) (.t 26))⟩,
  fi 28 (.pick (.t 24) (.c (.bool true)) (.t 27))])
 (.ite (.t 28)
 (.seq (.reg [] [fi 6 (.mv (.c (.ptr none))),
  fi 7 (.mv (.c (.int .i64 1)))])
 .ret)
 .skip))
 (.seq (.reg [] [fi 30 (.mv (.t 0)),
  ei 31 (.call 23 [(.t 30), (.c (.str (mkS [114, 97, 102, 116])))]),
  fi 29 (.mv (.t 31)),
  fi 32 (.extract (.t 29) 0),
  fi 33 (.extract (.t 29) 1),
  fi 8 (.mv (.t 32)),
  fi 9 (.mv (.t 33))])
 (.seq (.seq (.reg [] [fi 34 (.mv (.t 9)),
  fi 35 (.bin .neq (.t 34) (.c (.int .i64 0)))])
 (.ite (.t 35)
 (.seq (.reg [] [fi 36 (.mv (.t 9)),
  fi 6 (.mv (.c (.ptr none))),
  fi 7 (.mv (.t 36))])
 .ret)
 .skip))
 (.seq (.reg [] [fi 37 (.mv (.t 8)),
  fi 38 (.mv (.t 1)),
  fi 39 (.mv (.t 2)),
  fi 40 (.build [(.ptr none), (.int .i64 0), (.int .i64 0), (.int .u64 0), (.int .i64 0), (.sl [] 0 2 .nil), (.int .i64 0), (.int .u8 0), (.int .i64 0), (.sl [] 0 1 .nil), (.sl [] 0 1 .nil), (.sl [] 0 1 .nil), (.int .i64 0), (.int .i64 0), (.int .u64 0), (.sl [] 0 3 .nil), (.bool false)] [(0, 1, (.t 37)), (1, 1, (.t 38)), (2, 1, (.t 39)), (4, 1, (.c (.int .i64 (-1)))), (8, 1, (.c (.int .i64 (-1)))), (13, 1, (.c (.int .i64 10)))]),
  ei 41 (.box (.t 40)),
  fi 10 (.mv (.t 41))])
 (.seq (.seq (.reg [] [fi 42 (.mv (.t 8)),
  ei 43 (.call 24 [(.t 42)]),
  fi 44 (.mv (.c (.int .i64 0)))])
 (.blk 0 (.loop l_raft_Open_0)))
 (.seq (.reg [] [fi 58 (.mv (.t 10)),
  fi 6 (.mv (.t 58)),
  fi 7 (.mv (.c (.int .i64 0)))])
 .ret)))))))
theorem k_raft_Open : chkFn Try.prog n_raft_Open ⟨b_raft_Open, [.tmp 6, .tmp 7], 59⟩ = true := by kernel_rfl
abbrev n_raft_decode : Nat := 56
def k_raft_decode_0 : Cd := (.seq (.reg [] [fi 55 (.indexAddr 1 (.t 51) (.t 53)),
  fi 56 (.load false 1 (.t 55)),
  fi 8 (.mv (.t 56))])
 (.seq (.reg [] [fi 58 (.mv (.t 0)),
  fi 59 (.mv (.t 5)),
  ei 60 (.call 47 [(.t 58), (.t 59)]),
  fi 57 (.mv (.t 60)),
  fi 61 (.extract (.t 57) 0),
  fi 62 (.extract (.t 57) 1),
  fi 63 (.extract (.t 57) 2),
  fi 9 (.mv (.t 61)),
  fi 10 (.mv (.t 62)),
  fi 11 (.mv (.t 63))])
 (.seq (.seq (.reg [] [fi 64 (.mv (.t 11)),
  fi 65 (.bin .neq (.t 64) (.c (.int .i64 0))),
  fi 66 (.mv (.t 65)),
  .run ⟨(some 67), (some (66, false)), .f (.mv (.t 9))⟩,
  .run ⟨(some 68), (some (66, false)), .f (.bin .geq (.t 67) (.c (.int .u64 4611686018427387904)))⟩,
  fi 69 (.pick (.t 66) (.c (.bool true)) (.t 68))])
 (.ite (.t 69)
 (.seq (.reg [] [fi 70 (.build [(.int .u8 0), (.int .u64 0), (.int .u64 0), (.int .u64 0), (.int .u64 0), (.bool false), (.sl [] 0 2 .nil)] []),
  st (.store 7 (.t 2) (.t 70)),
  fi 3 (.mv (.c (.bool false)))])
 .ret)
 .skip))
 (.reg [] [fi 71 (.mv (.t 8)),
  fi 72 (.mv (.t 9)),
  fi 73 (.mv (.t 10)),
  fi 74 (.nilCheck (.t 71)),
  st (.store 1 (.t 74) (.t 72)),
  fi 5 (.mv (.t 73))]))))
def l_raft_decode_0 : Cd := (.seq (.reg [] [fi 54 (.bin .lss (.t 53) (.t 52))])
 (.seq (.ite (.t 54)
 .skip
 (.exit 0))
 (.seq (.blk 1 k_raft_decode_0)
 (.reg [] [fi 75 (.bin .add (.t 53) (.c (.int .i64 1))),
  fi 53 (.mv (.t 75))]))))
def k_raft_decode_1 : Cd := (.seq (.reg [] [fi 80 (.mv (.t 0)),
  fi 81 (.mv (.t 5)),
  ei 82 (.call 47 [(.t 80), (.t 81)]),
  fi 79 (.mv (.t 82)),
  fi 83 (.extract (.t 79) 0),
  fi 84 (.extract (.t 79) 1),
  fi 85 (.extract (.t 79) 2),
  fi 12 (.mv (.t 83)),
  fi 13 (.mv (.t 84)),
  fi 14 (.mv (.t 85))])
 (.seq (.seq (.reg [] [fi 86 (.mv (.t 14)),
  fi 87 (.bin .neq (.t 86) (.c (.int .i64 0)))])
 (.ite (.t 87)
 (.seq (.reg [] [fi 88 (.build [(.int .u8 0), (.int .u64 0), (.int .u64 0), (.int .u64 0), (.int .u64 0), (.bool false), (.sl [] 0 2 .nil)] []),
  st (.store 7 (.t 2) (.t 88)),
  fi 3 (.mv (.c (.bool false)))])
 .ret)
 .skip))
 (.seq (.reg [] [fi 90 (.mv (.t 0)),
  fi 91 (.mv (.t 13)),
  ei 92 (.call 73 [(.t 90), (.t 91), (.c (.int .i64 200))]),
  fi 89 (.mv (.t 92)),
  fi 93 (.extract (.t 89) 0),
  fi 94 (.extract (.t 89) 1),
  fi 95 (.extract (.t 89) 2),
  fi 15 (.mv (.t 93)),
  fi 16 (.mv (.t 94)),
  fi 14 (.mv (.t 95))])
 (.seq (.seq (.reg [] [fi 96 (.mv (.t 14)),
  fi 97 (.bin .neq (.t 96) (.c (.int .i64 0)))])
 (.ite (.t 97)
 (.seq (.reg [] [fi 98 (.build [(.int .u8 0), (.int .u64 0), (.int .u64 0), (.int .u64 0), (.int .u64 0), (.bool false), (.sl [] 0 2 .nil)] []),
  st (.store 7 (.t 2) (.t 98)),
  fi 3 (.mv (.c (.bool false)))])
 .ret)
 .skip))
 (.seq (.reg [] [fi 99 (.fieldAddr 6 (.t 4)),
  fi 100 (.load false 1 (.t 99)),
  fi 101 (.mv (.t 12)),
  fi 102 (.mv (.t 15)),
  ei 103 (.strBytes (.t 102)),
  fi 104 (.build [(.int .u64 0), (.sl [] 0 1 .nil)] [(0, 1, (.t 101)), (1, 1, (.t 103))]),
  ei 105 (.buildSlice 1 2 0 [(.int .u64 0), (.sl [] 0 1 .nil)] [(0, 2, (.t 104))]),
  ei 106 (.append 2 32 false (.t 100) (.t 105)),
  fi 107 (.fieldAddr 6 (.t 4)),
  st (.store 1 (.t 107) (.t 106))])
 (.reg [] [fi 108 (.mv (.t 16)),
  fi 5 (.mv (.t 108))]))))))
def l_raft_decode_1 : Cd := (.seq (.reg [] [fi 78 (.bin .lss (.t 77) (.t 76))])
 (.seq (.ite (.t 78)
 .skip
 (.exit 2))
 (.seq (.blk 3 k_raft_decode_1)
 (.reg [] [fi 109 (.bin .add (.t 77) (.c (.int .u64 1))),
  fi 77 (.mv (.t 109))]))))
def s_raft_decode_0 : Cd := (.seq (.seq (.reg [] [fi 76 (.load false 1 (.t 6)),
  fi 77 (.mv (.c (.int .u64 0)))])
 (.blk 2 (.loop l_raft_decode_1)))
 (.seq (.reg [] [fi 110 (.load true 7 (.t 4)),
  fi 111 (.mv (.t 5)),
  fi 112 (.mv (.t 0)),
  fi 113 (.len .sl (.t 112)),
  fi 114 (.bin .eql (.t 111) (.t 113)),
  st (.store 7 (.t 2) (.t 110)),
  fi 3 (.mv (.t 114))])
 .ret))
def b_raft_decode : Cd := (.seq (.reg [] [ei 2 (.alloc [(.int .u8 0), (.int .u64 0), (.int .u64 0), (.int .u64 0), (.int .u64 0), (.bool false), (.sl [] 0 2 .nil)]),
  fi 3 (.mv (.c (.bool false)))])
 (.seq (.seq (.reg [] [fi 17 (.mv (.t 0)),
  fi 18 (.len .sl (.t 17)),
  fi 19 (.bin .lss (.t 18) (.c (.int .i64 2))),
  fi 20 (.mv (.t 19)),
  .run ⟨(some 21), (some (20, false)), .f (.mv (.t 0))⟩,
  .run ⟨(some 22), (some (20, false)), .f (.indexAddr 1 (.t 21) (.c (.int .i64 0)))⟩,
  .run ⟨(some 23), (some (20, false)), .f (.load false 1 (.t 22))⟩,
  .run ⟨(some 24), (some (20, false)), .f (.bin .lss (.t 23) (.c (.int .u8 1)))⟩,
  fi 25 (.pick (.t 20) (.c (.bool true)) (.t 24)),
  fi 26 (.mv (.t 25)),
  .run ⟨(some 27), (some (26, false)), .f (.mv (.t 0))⟩,
  .run ⟨(some 28), (some (26, false)), .f (.indexAddr 1 (.t 27) (.c (.int .i64 0)))⟩,
  .run ⟨(some 29), (some (26, false)), .f (.load false 1 (.t 28))⟩,
  .run ⟨(some 30), (some (26, false)), .f (.bin .gtr (.t 29) (.c (.int .u8 4)))⟩,
  fi 31 (.pick (.t 26) (.c (.bool true)) (.t 30)),
  fi 32 (.mv (.t 31)),
  .run ⟨(some 33), (some (32, false)), .f (.mv (.t 0))⟩,
  .run ⟨(some 34), (some (32, false)), .f (.indexAddr 1 (.t 33) (.c (.int .i64 1)))⟩,
  .run ⟨(some 35), (some (32, false)), .f (.load false 1 (.t 34))⟩,
  .run ⟨(some 36), (some (32, false)), .f (.bin .gtr (.t 35) (.c (.int .u8 1)))⟩,
  fi 37 (.pick (.t 32) (.c (.bool true)) (.t 36))])
 (.ite (.t 37)
 (.seq (.reg [] [fi 38 (.build [(.int .u8 0), (.int .u64 0), (.int .u64 0), (.int .u64 0), (.int .u64 0), (.bool false), (.sl [] 0 2 .nil)] []),
  st (.store 7 (.t 2) (.t 38)),
  fi 3 (.mv (.c (.bool false)))])
 .ret)
 .skip))
 (.seq (.reg [0, 1, 2, 3, 4, 5, 6, 7, 8, 2, 5, 9] [fi 39 (.mv (.t 0)),
  fi 40 (.indexAddr 1 (.t 39) (.c (.int .i64 0))),
  fi 41 (.load false 1 (.t 40)),
  fi 42 (.mv (.t 0)),
  fi 43 (.indexAddr 1 (.t 42) (.c (.int .i64 1))),
  fi 44 (.load false 1 (.t 43)),
  fi 45 (.bin .eql (.t 44) (.c (.int .u8 1))),
  fi 46 (.build [(.int .u8 0), (.int .u64 0), (.int .u64 0), (.int .u64 0), (.int .u64 0), (.bool false), (.sl [] 0 2 .nil)] [(0, 1, (.t 41)), (5, 1, (.t 45))]),
  ei 4 (.alloc [(.int .u8 0), (.int .u64 0), (.int .u64 0), (.int .u64 0), (.int .u64 0), (.bool false), (.sl [] 0 2 .nil)]),
  .chk 41 none (.load false 1 (.t 40)),
  .chk 44 none (.load false 1 (.t 43)),
  st (.store 7 (.t 4) (.t 46))])
 (.seq (.reg [] [ei 6 (.alloc [(.int .u64 0)]),
  fi 5 (.mv (.c (.int .i64 2))),
  st (.store 1 (.t 6) (.c (.int .u64 0)))])
 (.seq (.seq (.reg [] [fi 47 (.fieldAddr 1 (.t 4)),
  fi 48 (.fieldAddr 2 (.t 4)),
  fi 49 (.fieldAddr 3 (.t 4)),
  fi 50 (.fieldAddr 4 (.t 4)),
  ei 51 (.buildSlice 5 1 0 [(.ptr none), (.ptr none), (.ptr none), (.ptr none), (.ptr none)] [(0, 1, (.t 47)), (1, 1, (.t 48)), (2, 1, (.t 49)), (3, 1, (.t 50)), (4, 1, (.t 6))]),
  fi 52 (.len .sl (.t 51)),
  fi 53 (.mv (.c (.int .i64 0)))])
 (.blk 0 (.loop l_raft_decode_0)))
 s_raft_decode_0)))))
theorem k_raft_decode : chkFn Try.prog n_raft_decode ⟨b_raft_decode, [.cell 2 true 7, .tmp 3], 115⟩ = true := by kernel_rfl
abbrev n_raft_message_encode : Nat := 53
def r_raft_message_encode_0 : Cd := (.seq (.blk 1 (.seq (.reg [] [fi 31 (.indexAddr 1 (.t 27) (.t 29)),
  fi 32 (.load false 1 (.t 31)),
  fi 5 (.mv (.t 32))])
 (.reg [] [fi 33 (.mv (.t 3)),
  fi 34 (.mv (.t 5)),
  ei 35 (.call 52 [(.t 34)]),
  ei 36 (.append 1 1 false (.t 33) (.t 35)),
  fi 3 (.mv (.t 36))])))
 (.reg [] [fi 37 (.bin .add (.t 29) (.c (.int .i64 1))),
  fi 29 (.mv (.t 37))]))
def l_raft_message_encode_0 : Cd := (.seq (.reg [] [fi 30 (.bin .lss (.t 29) (.t 28))])
 (.seq (.ite (.t 30)
 .skip
 (.exit 0))
 r_raft_message_encode_0))
def r_raft_message_encode_1 : Cd := (.seq (.blk 3 (.seq (.reg [] [fi 43 (.indexAddr 2 (.t 39) (.t 41)),
  fi 44 (.load true 2 (.t 43)),
  ei 7 (.alloc [(.int .u64 0), (.sl [] 0 1 .nil)]),
  st (.store 2 (.t 7) (.t 44))])
 (.seq (.reg [] [fi 45 (.mv (.t 3)),
  fi 46 (.fieldAddr 0 (.t 7)),
  fi 47 (.load false 1 (.t 46)),
  ei 48 (.call 52 [(.t 47)]),
  ei 49 (.append 1 1 false (.t 45) (.t 48)),
  fi 3 (.mv (.t 49))])
 (.reg [] [fi 50 (.mv (.t 3)),
  fi 51 (.fieldAddr 1 (.t 7)),
  fi 52 (.load false 1 (.t 51)),
  fi 53 (.conv .bytesStr (.t 52)),
  ei 54 (.call 72 [(.t 53)]),
  ei 55 (.append 1 1 false (.t 50) (.t 54)),
  fi 3 (.mv (.t 55))]))))
 (.reg [] [fi 56 (.bin .add (.t 41) (.c (.int .i64 1))),
  fi 41 (.mv (.t 56))]))
def l_raft_message_encode_1 : Cd := (.seq (.reg [] [fi 42 (.bin .lss (.t 41) (.t 40))])
 (.seq (.ite (.t 42)
 .skip
 (.exit 2))
 r_raft_message_encode_1))
def r_raft_message_encode_2 : Cd := (.seq (.seq (.reg [] [fi 15 (.fieldAddr 1 (.t 1)),
  fi 16 (.load false 1 (.t 15)),
  fi 17 (.fieldAddr 2 (.t 1)),
  fi 18 (.load false 1 (.t 17)),
  fi 19 (.fieldAddr 3 (.t 1)),
  fi 20 (.load false 1 (.t 19)),
  fi 21 (.fieldAddr 4 (.t 1)),
  fi 22 (.load false 1 (.t 21)),
  fi 23 (.fieldAddr 6 (.t 1)),
  fi 24 (.load false 1 (.t 23)),
  fi 25 (.len .sl (.t 24)),
  fi 26 (.conv (.int .u64) (.t 25)),
  ei 27 (.buildSlice 5 1 0 [(.int .u64 0), (.int .u64 0), (.int .u64 0), (.int .u64 0), (.int .u64 0)] [(0, 1, (.t 16)), (1, 1, (.t 18)), (2, 1, (.t 20)), (3, 1, (.t 22)), (4, 1, (.t 26))]),
  fi 28 (.len .sl (.t 27)),
  fi 29 (.mv (.c (.int .i64 0)))])
 (.blk 0 (.loop l_raft_message_encode_0)))
 (.seq (.seq (.reg [] [fi 38 (.fieldAddr 6 (.t 1)),
  fi 39 (.load false 1 (.t 38)),
  fi 40 (.len .sl (.t 39)),
  fi 41 (.mv (.c (.int .i64 0)))])
 (.blk 2 (.loop l_raft_message_encode_1)))
 (.seq (.reg [] [fi 57 (.mv (.t 3)),
  fi 2 (.mv (.t 57))])
 .ret)))
def b_raft_message_encode : Cd := (.seq (.reg [] [ei 1 (.box (.t 0)),
  fi 2 (.mv (.c (.sl [] 0 1 .nil)))])
 (.seq (.reg [] [fi 8 (.fieldAddr 0 (.t 1)),
  fi 9 (.load false 1 (.t 8)),
  ei 10 (.buildSlice 2 1 1 [(.int .u8 0), (.int .u8 0)] [(0, 1, (.t 9)), (1, 1, (.c (.int .u8 0)))]),
  fi 3 (.mv (.t 10))])
 (.seq (.seq (.reg [] [fi 11 (.fieldAddr 5 (.t 1)),
  fi 12 (.load false 1 (.t 11))])
 (.ite (.t 12)
 (.reg [] [fi 13 (.mv (.t 3)),
  fi 14 (.indexAddr 1 (.t 13) (.c (.int .i64 1))),
  st (.store 1 (.t 14) (.c (.int .u8 1)))])
 .skip))
 r_raft_message_encode_2)))
theorem k_raft_message_encode : chkFn Try.prog n_raft_message_encode ⟨b_raft_message_encode, [.tmp 2], 58⟩ = true := by kernel_rfl
abbrev n_slices_Clone_byte_byte : Nat := 35
def b_slices_Clone_byte_byte : Cd := (.seq (.reg [] [fi 2 (.mv (.c (.sl [] 0 1 .nil)))])
 (.seq (.seq (.reg [] [fi 3 (.mv (.t 0)),
  fi 4 (.eq false .slice (.t 3) (.c (.sl [] 0 1 .nil)))])
 (.ite (.t 4)
 (.seq (.reg [] [fi 2 (.mv (.c (.sl [] 0 1 .nil)))])
 .ret)
 .skip))
 (.seq (.reg [] [ei 5 (.buildSlice 0 1 0 [] []),
  fi 6 (.mv (.t 0)),
  ei 7 (.append 1 1 false (.t 5) (.t 6)),
  fi 2 (.mv (.t 7))])
 .ret)))
theorem k_slices_Clone_byte_byte : chkFn Try.prog n_slices_Clone_byte_byte ⟨b_slices_Clone_byte_byte, [.tmp 2], 8⟩ = true := by kernel_rfl
end Go.VM
