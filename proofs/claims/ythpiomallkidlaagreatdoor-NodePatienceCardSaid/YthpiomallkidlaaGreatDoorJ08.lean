/-
  The codes of functions, as the value machine has them, and that they stand for the model's (printed by a program, wip/gen).
-/
import Derived.Test.YthpiomallkidlaaGreatDoorJ06
import Derived.Test.YthpiomallkidlaaGreatDoorProg
import Derived.KernelRfl
set_option linter.unusedVariables false
set_option maxRecDepth 100000
namespace Go.VM
open Go Go.Proofs
abbrev n_disk_Disk_Append : Nat := 202
def b_disk_Disk_Append : Cd := (.seq (.reg [] [fi 6 (.mv (.c (.int .i64 0)))])
 (.seq (.reg [] [fi 7 (.mv (.t 0)),
  fi 8 (.mv (.t 1)),
  fi 9 (.mv (.t 2)),
  ei 10 (.call 225 [(.t 7), (.t 8), (.t 9), (.c (.bool false))]),
  fi 6 (.mv (.t 10))])
 .ret))
theorem k_disk_Disk_Append : chkFn Tryz.prog n_disk_Disk_Append ⟨b_disk_Disk_Append, [.tmp 6], 11⟩ = true := by kernel_rfl
abbrev n_disk_Disk_On : Nat := 72
def b_disk_Disk_On : Cd := (.seq (.reg [] [fi 2 (.mv (.c (.bool false)))])
 (.seq (.reg [] [fi 3 (.mv (.t 0)),
  fi 4 (.eq true .ptr (.t 3) (.c (.ptr none))),
  fi 5 (.mv (.t 4)),
  .run ⟨(some 6), (some (5, true)), .f (.mv (.t 0))⟩,
  .run ⟨(some 7), (some (5, true)), .f (.nilCheck (.t 6))⟩,
  .run ⟨(some 8), (some (5, true)), .f (.fieldAddr 5 (.t 7))⟩,
  .run ⟨(some 9), (some (5, true)), .f (.load false 1 (.t 8))⟩,
  .run ⟨(some 10), (some (5, true)), .f (.un .not (.t 9))⟩,
  fi 11 (.pick (.t 5) (.t 10) (.c (.bool false))),
  fi 2 (.mv (.t 11))])
 .ret))
theorem k_disk_Disk_On : chkFn Tryz.prog n_disk_Disk_On ⟨b_disk_Disk_On, [.tmp 2], 12⟩ = true := by kernel_rfl
abbrev n_disk_Disk_Read : Nat := 91
def b_disk_Disk_Read : Cd := (.seq (.reg [] [fi 4 (.mv (.c (.sl [] 0 1 .nil))),
  fi 5 (.mv (.c (.int .i64 0)))])
 (.seq (.seq (.reg [] [fi 8 (.mv (.t 0)),
  fi 9 (.mv (.t 1)),
  ei 10 (.buildSlice 1 1 0 [(.str (mkS []))] [(0, 1, (.t 9))]),
  ei 11 (.call 155 [(.t 8), (.t 10)]),
  fi 6 (.mv (.t 11))])
 (.seq (.reg [] [fi 12 (.mv (.t 6)),
  fi 13 (.bin .neq (.t 12) (.c (.int .i64 0)))])
 (.ite (.t 13)
 (.seq (.reg [] [fi 14 (.mv (.t 6)),
  fi 4 (.mv (.c (.sl [] 0 1 .nil))),
  fi 5 (.mv (.t 14))])
 .ret)
 .skip)))
 (.seq (.seq (.reg [] [fi 15 (.mv (.t 0)),
  fi 16 (.nilCheck (.t 15)),
  fi 17 (.fieldAddr 5 (.t 16)),
  fi 18 (.load false 1 (.t 17))])
 (.ite (.t 18)
 (.seq (.reg [] [fi 4 (.mv (.c (.sl [] 0 1 .nil))),
  fi 5 (.mv (.c (.int .i64 10)))])
 .ret)
 .skip))
 (.seq (.reg [] [fi 19 (.mv (.t 0)),
  fi 20 (.nilCheck (.t 19)),
  fi 21 (.fieldAddr 0 (.t 20)),
  fi 22 (.load false 1 (.t 21)),
  fi 23 (.mv (.t 1)),
  fi 24 (.lookup .str false (.ptr none) (.t 22) (.t 23)),
  fi 7 (.mv (.t 24))])
 (.seq (.seq (.reg [] [fi 25 (.mv (.t 7)),
  fi 26 (.eq false .ptr (.t 25) (.c (.ptr none)))])
 (.ite (.t 26)
 (.seq (.reg [] [fi 4 (.mv (.c (.sl [] 0 1 .nil))),
  fi 5 (.mv (.c (.int .i64 8)))])
 .ret)
 .skip))
 (.seq (.reg [] [fi 27 (.mv (.t 7)),
  fi 28 (.nilCheck (.t 27)),
  fi 29 (.fieldAddr 0 (.t 28)),
  fi 30 (.load false 1 (.t 29)),
  ei 31 (.append 1 1 false (.c (.sl [] 0 1 .nil)) (.t 30)),
  fi 4 (.mv (.t 31)),
  fi 5 (.mv (.c (.int .i64 0)))])
 .ret))))))
theorem k_disk_Disk_Read : chkFn Tryz.prog n_disk_Disk_Read ⟨b_disk_Disk_Read, [.tmp 4, .tmp 5], 32⟩ = true := by kernel_rfl
abbrev n_disk_Disk_Remove : Nat := 90
def b_disk_Disk_Remove : Cd := (.seq (.reg [] [ei 2 (.box (.t 0)),
  ei 3 (.box (.t 1)),
  fi 4 (.mv (.c (.int .i64 0)))])
 (.seq (.reg [] [fi 5 (.load false 1 (.t 2)),
  fi 6 (.load false 1 (.t 3)),
  fi 7 (.mkFunc 154 [] [(.t 2), (.t 3)]),
  ei 8 (.call 153 [(.t 5), (.t 6), (.t 7)]),
  fi 4 (.mv (.t 8))])
 .ret))
theorem k_disk_Disk_Remove : chkFn Tryz.prog n_disk_Disk_Remove ⟨b_disk_Disk_Remove, [.tmp 4], 9⟩ = true := by kernel_rfl
abbrev n_disk_Disk_Sync : Nat := 159
def b_disk_Disk_Sync : Cd := (.seq (.reg [] [fi 4 (.mv (.c (.int .i64 0)))])
 (.seq (.reg [] [fi 5 (.mv (.t 0)),
  fi 6 (.mv (.t 1)),
  ei 7 (.call 153 [(.t 5), (.t 6), (.c (.func 226 [] []))]),
  fi 4 (.mv (.t 7))])
 .ret))
theorem k_disk_Disk_Sync : chkFn Tryz.prog n_disk_Disk_Sync ⟨b_disk_Disk_Sync, [.tmp 4], 8⟩ = true := by kernel_rfl
abbrev n_disk_Disk_Sync_1 : Nat := 226
def b_disk_Disk_Sync_1 : Cd := (.reg [] [fi 2 (.mv (.t 0)),
  fi 3 (.mv (.t 0)),
  fi 4 (.nilCheck (.t 3)),
  fi 5 (.fieldAddr 0 (.t 4)),
  fi 6 (.load false 1 (.t 5)),
  fi 7 (.len .sl (.t 6)),
  fi 8 (.nilCheck (.t 2)),
  fi 9 (.fieldAddr 1 (.t 8)),
  st (.store 1 (.t 9) (.t 7))])
theorem k_disk_Disk_Sync_1 : chkFn Tryz.prog n_disk_Disk_Sync_1 ⟨b_disk_Disk_Sync_1, [], 10⟩ = true := by kernel_rfl
abbrev n_disk_Disk_begin : Nat := 223
def b_disk_Disk_begin : Cd := (.seq (.reg [] [fi 2 (.mv (.c (.bool false))),
  fi 3 (.mv (.c (.int .i64 0)))])
 (.seq (.seq (.reg [] [fi 4 (.mv (.t 0)),
  fi 5 (.nilCheck (.t 4)),
  fi 6 (.fieldAddr 5 (.t 5)),
  fi 7 (.load false 1 (.t 6))])
 (.ite (.t 7)
 (.seq (.reg [] [fi 2 (.mv (.c (.bool false))),
  fi 3 (.mv (.c (.int .i64 10)))])
 .ret)
 .skip))
 (.seq (.reg [] [fi 8 (.mv (.t 0)),
  fi 9 (.nilCheck (.t 8)),
  fi 10 (.fieldAddr 3 (.t 9)),
  fi 11 (.load false 1 (.t 10)),
  fi 12 (.bin .add (.t 11) (.c (.int .i64 1))),
  fi 13 (.nilCheck (.t 8)),
  fi 14 (.fieldAddr 3 (.t 13)),
  st (.store 1 (.t 14) (.t 12))])
 (.seq (.seq (.reg [] [fi 15 (.mv (.t 0)),
  fi 16 (.nilCheck (.t 15)),
  fi 17 (.fieldAddr 4 (.t 16)),
  fi 18 (.load false 1 (.t 17)),
  fi 19 (.bin .gtr (.t 18) (.c (.int .i64 0)))])
 (.ite (.t 19)
 (.seq (.reg [] [fi 20 (.mv (.t 0)),
  fi 21 (.nilCheck (.t 20)),
  fi 22 (.fieldAddr 4 (.t 21)),
  fi 23 (.load false 1 (.t 22)),
  fi 24 (.bin .sub (.t 23) (.c (.int .i64 1))),
  fi 25 (.nilCheck (.t 20)),
  fi 26 (.fieldAddr 4 (.t 25)),
  st (.store 1 (.t 26) (.t 24))])
 (.reg [] [fi 27 (.mv (.t 0)),
  fi 28 (.mv (.t 0)),
  fi 29 (.nilCheck (.t 28)),
  fi 30 (.fieldAddr 4 (.t 29)),
  fi 31 (.load false 1 (.t 30)),
  fi 32 (.bin .eql (.t 31) (.c (.int .i64 0))),
  fi 33 (.nilCheck (.t 27)),
  fi 34 (.fieldAddr 5 (.t 33)),
  st (.store 1 (.t 34) (.t 32))]))
 .skip))
 (.seq (.reg [] [fi 35 (.mv (.t 0)),
  fi 36 (.nilCheck (.t 35)),
  fi 37 (.fieldAddr 5 (.t 36)),
  fi 38 (.load false 1 (.t 37)),
  fi 2 (.mv (.t 38)),
  fi 3 (.mv (.c (.int .i64 0)))])
 .ret)))))
theorem k_disk_Disk_begin : chkFn Tryz.prog n_disk_Disk_begin ⟨b_disk_Disk_begin, [.tmp 2, .tmp 3], 39⟩ = true := by kernel_rfl
abbrev n_disk_Disk_change : Nat := 153
def b_disk_Disk_change : Cd := (.seq (.reg [] [fi 6 (.mv (.c (.int .i64 0)))])
 (.seq (.seq (.reg [] [fi 11 (.mv (.t 0)),
  fi 12 (.mv (.t 1)),
  ei 13 (.buildSlice 1 1 0 [(.str (mkS []))] [(0, 1, (.t 12))]),
  ei 14 (.call 155 [(.t 11), (.t 13)]),
  fi 7 (.mv (.t 14))])
 (.seq (.reg [] [fi 15 (.mv (.t 7)),
  fi 16 (.bin .neq (.t 15) (.c (.int .i64 0)))])
 (.ite (.t 16)
 (.seq (.reg [] [fi 17 (.mv (.t 7)),
  fi 6 (.mv (.t 17))])
 .ret)
 .skip)))
 (.seq (.seq (.reg [] [fi 18 (.mv (.t 0)),
  fi 19 (.nilCheck (.t 18)),
  fi 20 (.fieldAddr 5 (.t 19)),
  fi 21 (.load false 1 (.t 20))])
 (.ite (.t 21)
 (.seq (.reg [] [fi 6 (.mv (.c (.int .i64 10)))])
 .ret)
 .skip))
 (.seq (.reg [] [fi 22 (.mv (.t 0)),
  fi 23 (.nilCheck (.t 22)),
  fi 24 (.fieldAddr 0 (.t 23)),
  fi 25 (.load false 1 (.t 24)),
  fi 26 (.mv (.t 1)),
  fi 27 (.lookup .str false (.ptr none) (.t 25) (.t 26)),
  fi 8 (.mv (.t 27))])
 (.seq (.seq (.reg [] [fi 28 (.mv (.t 8)),
  fi 29 (.eq false .ptr (.t 28) (.c (.ptr none)))])
 (.ite (.t 29)
 (.seq (.reg [] [fi 6 (.mv (.c (.int .i64 8)))])
 .ret)
 .skip))
 (.seq (.seq (.reg [] [fi 31 (.mv (.t 0)),
  ei 32 (.call 223 [(.t 31)]),
  fi 30 (.mv (.t 32)),
  fi 33 (.extract (.t 30) 0),
  fi 34 (.extract (.t 30) 1),
  fi 9 (.mv (.t 33)),
  fi 10 (.mv (.t 34))])
 (.seq (.reg [] [fi 35 (.mv (.t 9))])
 (.ite (.t 35)
 (.seq (.reg [] [fi 6 (.mv (.c (.int .i64 10)))])
 .ret)
 .skip)))
 (.seq (.reg [] [fi 36 (.mv (.t 2)),
  fi 37 (.mv (.t 8)),
  ei 38 (.callV (.t 36) [(.t 37)])])
 (.seq (.reg [] [fi 6 (.mv (.c (.int .i64 0)))])
 .ret))))))))
theorem k_disk_Disk_change : chkFn Tryz.prog n_disk_Disk_change ⟨b_disk_Disk_change, [.tmp 6], 39⟩ = true := by kernel_rfl
abbrev n_disk_Disk_grow : Nat := 225
def k_disk_Disk_grow_0 : Cd := (.seq (.reg [] [fi 27 (.mv (.t 0)),
  fi 28 (.nilCheck (.t 27)),
  fi 29 (.fieldAddr 5 (.t 28)),
  fi 30 (.load false 1 (.t 29)),
  fi 26 (.mv (.t 30))])
 (.ite (.t 26)
 (.seq (.reg [] [fi 8 (.mv (.c (.int .i64 10)))])
 .ret)
 (.seq (.reg [] [fi 32 (.mv (.t 3)),
  fi 33 (.mv (.t 32)),
  .run ⟨(some 34), (some (33, true)), .f (.mv (.t 10))⟩,
  .run ⟨(some 35), (some (33, true)), .f (.eq true .ptr (.t 34) (.c (.ptr none)))⟩,
  fi 36 (.pick (.t 33) (.t 35) (.c (.bool false))),
  fi 31 (.mv (.t 36))])
 (.ite (.t 31)
 (.seq (.reg [] [fi 8 (.mv (.c (.int .i64 9)))])
 .ret)
 (.seq (.reg [0, 1, 2, 3, 4, 5, 6, 7, 8, 9, 10, 11, 12] [fi 38 (.mv (.t 2)),
  fi 39 (.len .sl (.t 38)),
  fi 40 (.mv (.t 0)),
  fi 41 (.nilCheck (.t 40)),
  fi 42 (.fieldAddr 1 (.t 41)),
  fi 43 (.load false 1 (.t 42)),
  fi 44 (.mv (.t 0)),
  fi 45 (.nilCheck (.t 44)),
  fi 46 (.fieldAddr 2 (.t 45)),
  fi 47 (.load false 1 (.t 46)),
  fi 48 (.bin .sub (.t 43) (.t 47)),
  fi 49 (.bin .gtr (.t 39) (.t 48)),
  fi 37 (.mv (.t 49))])
 (.ite (.t 37)
 (.seq (.reg [] [fi 8 (.mv (.c (.int .i64 11)))])
 .ret)
 .skip))))))
def s_disk_Disk_grow_0 : Cd := (.seq (.reg [] [fi 51 (.mv (.t 0)),
  ei 52 (.call 223 [(.t 51)]),
  fi 50 (.mv (.t 52)),
  fi 53 (.extract (.t 50) 0),
  fi 54 (.extract (.t 50) 1),
  fi 11 (.mv (.t 53)),
  fi 12 (.mv (.t 54))])
 (.seq (.seq (.reg [] [fi 55 (.mv (.t 12)),
  fi 56 (.bin .neq (.t 55) (.c (.int .i64 0)))])
 (.ite (.t 56)
 (.seq (.reg [] [fi 57 (.mv (.t 12)),
  fi 8 (.mv (.t 57))])
 .ret)
 .skip))
 (.seq (.seq (.reg [] [fi 58 (.mv (.t 10)),
  fi 59 (.eq false .ptr (.t 58) (.c (.ptr none)))])
 (.ite (.t 59)
 (.seq (.reg [] [fi 60 (.build [(.sl [] 0 1 .nil), (.int .i64 0)] []),
  ei 61 (.box (.t 60)),
  fi 10 (.mv (.t 61))])
 (.reg [] [fi 62 (.mv (.t 0)),
  fi 63 (.nilCheck (.t 62)),
  fi 64 (.fieldAddr 0 (.t 63)),
  fi 65 (.load false 1 (.t 64)),
  fi 66 (.mv (.t 1)),
  fi 67 (.mv (.t 10)),
  st (.mapSet .str (.t 65) (.t 66) (.t 67))]))
 .skip))
 (.seq (.reg [] [fi 68 (.mv (.t 10)),
  fi 69 (.mv (.t 10)),
  fi 70 (.nilCheck (.t 69)),
  fi 71 (.fieldAddr 0 (.t 70)),
  fi 72 (.load false 1 (.t 71)),
  fi 73 (.mv (.t 2)),
  ei 74 (.append 1 1 false (.t 72) (.t 73)),
  fi 75 (.nilCheck (.t 68)),
  fi 76 (.fieldAddr 0 (.t 75)),
  st (.store 1 (.t 76) (.t 74))])
 (.seq (.reg [] [fi 77 (.mv (.t 0)),
  fi 78 (.nilCheck (.t 77)),
  fi 79 (.fieldAddr 2 (.t 78)),
  fi 80 (.load false 1 (.t 79)),
  fi 81 (.mv (.t 2)),
  fi 82 (.len .sl (.t 81)),
  fi 83 (.bin .add (.t 80) (.t 82)),
  fi 84 (.nilCheck (.t 77)),
  fi 85 (.fieldAddr 2 (.t 84)),
  st (.store 1 (.t 85) (.t 83))])
 (.seq (.seq (.reg [] [fi 86 (.mv (.t 11))])
 (.ite (.t 86)
 (.seq (.reg [] [fi 8 (.mv (.c (.int .i64 10)))])
 .ret)
 .skip))
 (.seq (.reg [] [fi 8 (.mv (.c (.int .i64 0)))])
 .ret)))))))
def b_disk_Disk_grow : Cd := (.seq (.reg [] [fi 8 (.mv (.c (.int .i64 0)))])
 (.seq (.seq (.reg [] [fi 13 (.mv (.t 0)),
  fi 14 (.mv (.t 1)),
  ei 15 (.buildSlice 1 1 0 [(.str (mkS []))] [(0, 1, (.t 14))]),
  ei 16 (.call 155 [(.t 13), (.t 15)]),
  fi 9 (.mv (.t 16))])
 (.seq (.reg [] [fi 17 (.mv (.t 9)),
  fi 18 (.bin .neq (.t 17) (.c (.int .i64 0)))])
 (.ite (.t 18)
 (.seq (.reg [] [fi 19 (.mv (.t 9)),
  fi 8 (.mv (.t 19))])
 .ret)
 .skip)))
 (.seq (.reg [] [fi 20 (.mv (.t 0)),
  fi 21 (.nilCheck (.t 20)),
  fi 22 (.fieldAddr 0 (.t 21)),
  fi 23 (.load false 1 (.t 22)),
  fi 24 (.mv (.t 1)),
  fi 25 (.lookup .str false (.ptr none) (.t 23) (.t 24)),
  fi 10 (.mv (.t 25))])
 (.seq (.blk 0 k_disk_Disk_grow_0)
 s_disk_Disk_grow_0))))
theorem k_disk_Disk_grow : chkFn Tryz.prog n_disk_Disk_grow ⟨b_disk_Disk_grow, [.tmp 8], 87⟩ = true := by kernel_rfl
abbrev n_disk_Disk_look : Nat := 155
def l_disk_Disk_look_0 : Cd := (.seq (.reg [] [fi 12 (.bin .lss (.t 11) (.t 10))])
 (.seq (.ite (.t 12)
 .skip
 (.exit 0))
 (.seq (.blk 1 (.seq (.reg [] [fi 13 (.indexAddr 1 (.t 9) (.t 11)),
  fi 14 (.load false 1 (.t 13)),
  fi 6 (.mv (.t 14))])
 (.seq (.reg [] [fi 15 (.mv (.t 6)),
  ei 16 (.call 89 [(.t 15)]),
  fi 17 (.un .not (.t 16))])
 (.ite (.t 17)
 (.seq (.reg [] [fi 4 (.mv (.c (.int .i64 1)))])
 .ret)
 .skip))))
 (.reg [] [fi 18 (.bin .add (.t 11) (.c (.int .i64 1))),
  fi 11 (.mv (.t 18))]))))
def b_disk_Disk_look : Cd := (.seq (.reg [] [fi 4 (.mv (.c (.int .i64 0)))])
 (.seq (.seq (.reg [] [fi 7 (.mv (.t 0)),
  fi 8 (.eq false .ptr (.t 7) (.c (.ptr none)))])
 (.ite (.t 8)
 (.seq (.reg [] [fi 4 (.mv (.c (.int .i64 8)))])
 .ret)
 .skip))
 (.seq (.seq (.reg [] [fi 9 (.mv (.t 1)),
  fi 10 (.len .sl (.t 9)),
  fi 11 (.mv (.c (.int .i64 0)))])
 (.blk 0 (.loop l_disk_Disk_look_0)))
 (.seq (.reg [] [fi 4 (.mv (.c (.int .i64 0)))])
 .ret))))
theorem k_disk_Disk_look : chkFn Tryz.prog n_disk_Disk_look ⟨b_disk_Disk_look, [.tmp 4], 19⟩ = true := by kernel_rfl
abbrev n_disk_Name : Nat := 89
def k_disk_Name_0 : Cd := (.seq (.reg [] [fi 8 (.mv (.t 6)),
  fi 3 (.mv (.t 8))])
 (.seq (.reg [] [fi 9 (.mv (.t 0)),
  fi 10 (.mv (.t 3)),
  fi 11 (.indexS (.t 9) (.t 10)),
  fi 12 (.bin .geq (.t 11) (.c (.int .u8 97))),
  fi 13 (.mv (.t 12)),
  .run ⟨(some 14), (some (13, true)), .f (.mv (.t 0))⟩,
  .run ⟨(some 15), (some (13, true)), .f (.mv (.t 3))⟩,
  .run ⟨(some 16), (some (13, true)), .f (.indexS (.t 14) (.t 15))⟩,
  .run ⟨(some 17), (some (13, true)), .f (.bin .leq (.t 16) (.c (.int .u8 122)))⟩,
  fi 18 (.pick (.t 13) (.t 17) (.c (.bool false))),
  fi 19 (.mv (.t 18)),
  .run ⟨(some 20), (some (19, false)), .f (.mv (.t 0))⟩,
  .run ⟨(some 21), (some (19, false)), .f (.mv (.t 3))⟩,
  .run ⟨(some 22), (some (19, false)), .f (.indexS (.t 20) (.t 21))⟩,
  .run ⟨(some 23), (some (19, false)), .f (.bin .geq (.t 22) (.c (.int .u8 48)))⟩,
  .run ⟨(some 24), (some (19, false)), .f (.mv (.t 23))⟩,
  .run ⟨(some 25), (some (24, true)), .f (.mv (.t 0))⟩,
  .run ⟨(some 26), (some (24, true)), .f (.mv (.t 3))⟩,
  .run ⟨(some 27), (some (24, true)), .f (.indexS (.t 25) (.t 26))⟩,
  .run ⟨(some 28), (some (24, true)), .f (.bin .leq (.t 27) (.c (.int .u8 57)))⟩,
  .run ⟨(some 29), (some (19, false)), .f (.pick (.t 24) (.t 28) (.c (.bool false)))⟩,
  fi 30 (.pick (.t 19) (.c (.bool true)) (.t 29)),
  fi 31 (.mv (.t 30)),
  .run ⟨(some 32), (some (31, false)), .f (.mv (.t 0))⟩,
  .run ⟨(some 33), (some (31, false)), .f (.mv (.t 3))⟩,
  .run ⟨(some 34), (some (31, false)), .f (.indexS (.t 32) (.t 33))⟩,
  .run ⟨(some 35), (some (31, false)), .f (.bin .eql (.t 34) (.c (.int .u8 46)))⟩,
  fi 36 (.pick (.t 31) (.c (.bool true)) (.t 35)),
  fi 37 (.mv (.t 36)),
  .run ⟨(some 38), (some (37, false)), .f (.mv (.t 0))⟩,
  .run ⟨(some 39), (some (37, false)), .f (.mv (.t 3))⟩,
  .run ⟨(some 40), (some (37, false)), .f (.indexS (.t 38) (.t 39))⟩,
  .run ⟨(some 41), (some (37, false)), .f (.bin .eql (.t 40) (.c (.int .u8 45)))⟩,
  fi 42 (.pick (.t 37) (.c (.bool true)) (.t 41)),
  fi 43 (.un .not (.t 42))])
 (.ite (.t 43)
 (.seq (.reg [] [fi 2 (.mv (.c (.bool false)))])
 .ret)
 .skip)))
def l_disk_Name_0 : Cd := (.seq (.reg [] [fi 7 (.bin .lss (.t 6) (.t 5))])
 (.seq (.ite (.t 7)
 .skip
 (.exit 0))
 (.seq (.blk 1 k_disk_Name_0)
 (.reg [] [fi 44 (.bin .add (.t 6) (.c (.int .i64 1))),
  fi 6 (.mv (.t 44))]))))
def s_disk_Name_0 : Cd := (.seq (.reg [] [fi 45 (.mv (.t 0)),
  fi 46 (.len .str (.t 45)),
  fi 47 (.bin .geq (.t 46) (.c (.int .i64 1))),
  fi 48 (.mv (.t 47)),
  .run ⟨(some 49), (some (48, true)), .f (.mv (.t 0))⟩,
  .run ⟨(some 50), (some (48, true)), .f (.len .str (.t 49))⟩,
  .run ⟨(some 51), (some (48, true)), .f (.bin .leq (.t 50) (.c (.int .i64 32)))⟩,
  fi 52 (.pick (.t 48) (.t 51) (.c (.bool false))),
  fi 2 (.mv (.t 52))])
 .ret)
def b_disk_Name : Cd := (.seq (.reg [] [fi 2 (.mv (.c (.bool false)))])
 (.seq (.seq (.reg [] [fi 4 (.mv (.t 0)),
  fi 5 (.len .str (.t 4)),
  fi 6 (.mv (.c (.int .i64 0)))])
 (.blk 0 (.loop l_disk_Name_0)))
 s_disk_Name_0))
theorem k_disk_Name : chkFn Tryz.prog n_disk_Name ⟨b_disk_Name, [.tmp 2], 53⟩ = true := by kernel_rfl
abbrev n_disk_New : Nat := 6
def b_disk_New : Cd := (.seq (.reg [] [fi 2 (.mv (.c (.ptr none))),
  fi 3 (.mv (.c (.int .i64 0)))])
 (.seq (.seq (.reg [] [fi 4 (.mv (.t 0)),
  fi 5 (.bin .lss (.t 4) (.c (.int .i64 0))),
  fi 6 (.mv (.t 5)),
  .run ⟨(some 7), (some (6, false)), .f (.mv (.t 0))⟩,
  .run ⟨(some 8), (some (6, false)), .f (.bin .gtr (.t 7) (.c (.int .i64 67108864)))⟩,
  fi 9 (.pick (.t 6) (.c (.bool true)) (.t 8))])
 (.ite (.t 9)
 (.seq (.reg [] [fi 2 (.mv (.c (.ptr none))),
  fi 3 (.mv (.c (.int .i64 1)))])
 .ret)
 .skip))
 (.seq (.reg [] [ei 10 (.makeMap),
  fi 11 (.mv (.t 0)),
  fi 12 (.build [(.map none), (.int .i64 0), (.int .i64 0), (.int .i64 0), (.int .i64 0), (.bool false)] [(0, 1, (.t 10)), (1, 1, (.t 11))]),
  ei 13 (.box (.t 12)),
  fi 2 (.mv (.t 13)),
  fi 3 (.mv (.c (.int .i64 0)))])
 .ret)))
theorem k_disk_New : chkFn Tryz.prog n_disk_New ⟨b_disk_New, [.tmp 2, .tmp 3], 14⟩ = true := by kernel_rfl
abbrev n_l20_NodePatience : Nat := 4
def l_l20_NodePatience_0 : Cd := (.seq (.seq (.reg [] [fi 52 (.mv (.t 13)),
  fi 53 (.bin .lss (.t 52) (.c (.int .i64 61)))])
 (.ite (.t 53)
 .skip
 (.exit 0)))
 (.seq (.blk 1 (.seq (.seq (.reg [] [fi 56 (.mv (.t 8)),
  fi 57 (.mv (.t 1)),
  fi 58 (.conv (.int .u64) (.t 57)),
  fi 59 (.mv (.t 13)),
  fi 60 (.conv (.int .u64) (.t 59)),
  fi 61 (.bin .add (.t 58) (.t 60)),
  ei 62 (.call 17 [(.t 56), (.t 61)]),
  fi 63 (.bin .neq (.t 62) (.c (.int .i64 0)))])
 (.ite (.t 63)
 (.seq (.reg [] [fi 4 (.mv (.c (.bool false)))])
 .ret)
 .skip))
 (.seq (.reg [] [fi 64 (.mv (.t 8)),
  ei 65 (.call 18 [(.t 64)])])
 (.reg [] [fi 66 (.mv (.t 12)),
  fi 67 (.mv (.t 8)),
  ei 68 (.call 19 [(.t 67)]),
  ei 69 (.append 5 64 false (.t 66) (.t 68)),
  fi 12 (.mv (.t 69))]))))
 (.reg [] [fi 54 (.mv (.t 13)),
  fi 55 (.bin .add (.t 54) (.c (.int .i64 1))),
  fi 13 (.mv (.t 55))])))
def k_l20_NodePatience_0 : Cd := (.seq (.seq (.reg [] [fi 76 (.mv (.t 12)),
  fi 77 (.mv (.t 15)),
  fi 78 (.indexAddr 5 (.t 76) (.t 77)),
  fi 79 (.fieldAddr 0 (.t 78)),
  fi 80 (.load false 1 (.t 79)),
  fi 81 (.bin .eql (.t 80) (.c (.int .u64 1))),
  fi 82 (.mv (.t 81)),
  .run ⟨(some 83), (some (82, true)), .f (.mv (.t 12))⟩,
  .run ⟨(some 84), (some (82, true)), .f (.mv (.t 15))⟩,
  .run ⟨(some 85), (some (82, true)), .f (.indexAddr 5 (.t 83) (.t 84))⟩,
  .run ⟨(some 86), (some (82, true)), .f (.fieldAddr 1 (.t 85))⟩,
  .run ⟨(some 87), (some (82, true)), .f (.load false 1 (.t 86))⟩,
  .run ⟨(some 88), (some (82, true)), .f (.bin .neq (.t 87) (.c (.int .i64 12)))⟩,
  fi 89 (.pick (.t 82) (.t 88) (.c (.bool false))),
  fi 90 (.mv (.t 89)),
  .run ⟨(some 91), (some (90, false)), .f (.mv (.t 12))⟩,
  .run ⟨(some 92), (some (90, false)), .f (.mv (.t 15))⟩,
  .run ⟨(some 93), (some (90, false)), .f (.indexAddr 5 (.t 91) (.t 92))⟩,
  .run ⟨(some 94), (some (90, false)), .f (.fieldAddr 0 (.t 93))⟩,
  .run ⟨(some 95), (some (90, false)), .f (.load false 1 (.t 94))⟩,
  .run ⟨(some 96), (some (90, false)), .f (.bin .eql (.t 95) (.c (.int .u64 2)))⟩,
  .run ⟨(some 97), (some (90, false)), .f (.mv (.t 96))⟩,
  .run ⟨(some 98), (some (97, true)), .f (.mv (.t 12))⟩,
  .run ⟨(some 99), (some (97, true)), .f (.mv (.t 15))⟩,
  .run ⟨(some 100), (some (97, true)), .f (.indexAddr 5 (.t 98) (.t 99))⟩,
  .run ⟨(some 101), (some (97, true)), .f (.fieldAddr 1 (.t 100))⟩,
  .run ⟨(some 102), (some (97, true)), .f (.load false 1 (.t 101))⟩,
  .run ⟨(some 103), (some (97, true)), .f (.bin .neq (.t 102) (.c (.int .i64 0)))⟩,
  .run ⟨(some 104), (some (90, false)), .f (.pick (.t 97) (.t 103) (.c (.bool false)))⟩,
  fi 105 (.pick (.t 90) (.c (.bool true)) (.t 104))])
 (.ite (.t 105)
 (.seq (.reg [] [fi 4 (.mv (.c (.bool false)))])
 .ret)
 .skip))
 (.reg [] [fi 106 (.mv (.t 14)),
  fi 107 (.bin .add (.t 106) (.c (.int .i64 1))),
  fi 14 (.mv (.t 107))]))
def l_l20_NodePatience_1 : Cd := (.seq (.seq (.reg [] [fi 70 (.mv (.t 15)),
  fi 71 (.mv (.t 12)),
  fi 72 (.len .sl (.t 71)),
  fi 73 (.bin .lss (.t 70) (.t 72))])
 (.ite (.t 73)
 .skip
 (.exit 2)))
 (.seq (.blk 3 k_l20_NodePatience_0)
 (.reg [] [fi 74 (.mv (.t 15)),
  fi 75 (.bin .add (.t 74) (.c (.int .i64 1))),
  fi 15 (.mv (.t 75))])))
def s_l20_NodePatience_0 : Cd := (.seq (.reg [] [fi 108 (.mv (.t 8)),
  ei 109 (.call 12 [(.t 108)]),
  fi 110 (.bin .eql (.t 109) (.c (.int .i64 0))),
  fi 111 (.mv (.t 110)),
  .run ⟨(some 112), (some (111, true)), .f (.mv (.t 10))⟩,
  .run ⟨(some 113), (some (111, true)), .f (.bin .eql (.t 112) (.c (.int .i64 0)))⟩,
  .run ⟨(some 114), (some (111, true)), .f (.mv (.t 113))⟩,
  .run ⟨(some 115), (some (114, true)), .f (.mv (.t 14))⟩,
  .run ⟨(some 116), (some (114, true)), .f (.bin .eql (.t 115) (.c (.int .i64 2)))⟩,
  .run ⟨(some 117), (some (111, true)), .f (.pick (.t 114) (.t 116) (.c (.bool false)))⟩,
  .run ⟨(some 118), (some (111, true)), .f (.mv (.t 117))⟩,
  .run ⟨(some 119), (some (118, false)), .f (.mv (.t 10))⟩,
  .run ⟨(some 120), (some (118, false)), .f (.bin .neq (.t 119) (.c (.int .i64 0)))⟩,
  .run ⟨(some 121), (some (118, false)), .f (.mv (.t 120))⟩,
  .run ⟨(some 122), (some (121, true)), .f (.mv (.t 14))⟩,
  .run ⟨(some 123), (some (121, true)), .f (.bin .eql (.t 122) (.c (.int .i64 1)))⟩,
  .run ⟨(some 124), (some (118, false)), .f (.pick (.t 121) (.t 123) (.c (.bool false)))⟩,
  .run ⟨(some 125), (some (111, true)), .f (.pick (.t 118) (.c (.bool true)) (.t 124))⟩,
  fi 126 (.pick (.t 111) (.t 125) (.c (.bool false))),
  fi 4 (.mv (.t 126))])
 .ret)
def b_l20_NodePatience : Cd := (.seq (.reg [] [ei 2 (.box (.t 0)),
  fi 4 (.mv (.c (.bool false)))])
 (.seq (.seq (.reg [] [ei 16 (.call 5 []),
  fi 17 (.un .not (.t 16)),
  fi 18 (.mv (.t 17)),
  .run ⟨(some 19), (some (18, false)), .f (.fieldAddr 0 (.t 2))⟩,
  .run ⟨(some 20), (some (18, false)), .f (.load false 1 (.t 19))⟩,
  .run ⟨(some 21), (some (18, false)), .f (.bin .eql (.t 20) (.c (.str (mkS []))))⟩,
  fi 22 (.pick (.t 18) (.c (.bool true)) (.t 21))])
 (.ite (.t 22)
 (.seq (.reg [] [ei 23 (.call 5 []),
  fi 4 (.mv (.t 23))])
 .ret)
 .skip))
 (.seq (.reg [] [fi 24 (.build [(.int .i64 0), (.int .i64 0), (.int .i64 0), (.int .i64 0), (.int .i64 0), (.int .i64 0)] [(0, 1, (.c (.int .i64 3))), (1, 1, (.c (.int .i64 1))), (2, 1, (.c (.int .i64 3))), (3, 1, (.c (.int .i64 1))), (4, 1, (.c (.int .i64 2))), (5, 1, (.c (.int .i64 1048576)))]),
  ei 5 (.alloc [(.int .i64 0), (.int .i64 0), (.int .i64 0), (.int .i64 0), (.int .i64 0), (.int .i64 0)]),
  st (.store 6 (.t 5) (.t 24))])
 (.seq (.reg [] [ei 26 (.call 6 [(.c (.int .i64 1048576))]),
  fi 25 (.mv (.t 26)),
  fi 27 (.extract (.t 25) 0),
  fi 28 (.extract (.t 25) 1),
  fi 6 (.mv (.t 27)),
  fi 7 (.mv (.t 28))])
 (.seq (.reg [] [fi 30 (.mv (.t 6)),
  fi 31 (.load true 6 (.t 5)),
  ei 32 (.call 7 [(.t 30), (.c (.int .i64 1)), (.t 31)]),
  fi 29 (.mv (.t 32)),
  fi 33 (.extract (.t 29) 0),
  fi 34 (.extract (.t 29) 1),
  fi 8 (.mv (.t 33)),
  fi 9 (.mv (.t 34))])
 (.seq (.seq (.reg [] [fi 35 (.mv (.t 9)),
  fi 36 (.bin .neq (.t 35) (.c (.int .i64 0)))])
 (.ite (.t 36)
 (.seq (.reg [] [fi 4 (.mv (.c (.bool false)))])
 .ret)
 .skip))
 (.seq (.reg [] [fi 37 (.mv (.t 8)),
  fi 38 (.load true 3 (.t 2)),
  ei 39 (.call 15 [(.t 37), (.c (.int .u64 1)), (.t 38)]),
  fi 10 (.mv (.t 39))])
 (.seq (.reg [] [fi 40 (.mv (.t 8)),
  ei 41 (.call 16 [(.t 40), (.c (.int .u64 2)), (.c (.str (mkS [42]))), (.c (.int .i64 5))]),
  fi 11 (.mv (.t 41))])
 (.seq (.seq (.reg [] [fi 42 (.mv (.t 11)),
  fi 43 (.bin .neq (.t 42) (.c (.int .i64 0))),
  fi 44 (.mv (.t 43)),
  .run ⟨(some 45), (some (44, false)), .f (.mv (.t 10))⟩,
  .run ⟨(some 46), (some (44, false)), .f (.bin .neq (.t 45) (.c (.int .i64 0)))⟩,
  .run ⟨(some 47), (some (44, false)), .f (.mv (.t 46))⟩,
  .run ⟨(some 48), (some (47, true)), .f (.mv (.t 10))⟩,
  .run ⟨(some 49), (some (47, true)), .f (.bin .neq (.t 48) (.c (.int .i64 3)))⟩,
  .run ⟨(some 50), (some (44, false)), .f (.pick (.t 47) (.t 49) (.c (.bool false)))⟩,
  fi 51 (.pick (.t 44) (.c (.bool true)) (.t 50))])
 (.ite (.t 51)
 (.seq (.reg [] [fi 4 (.mv (.c (.bool false)))])
 .ret)
 .skip))
 (.seq (.reg [] [fi 12 (.mv (.c (.sl [] 0 5 .nil)))])
 (.seq (.seq (.reg [] [fi 13 (.mv (.c (.int .i64 0)))])
 (.blk 0 (.loop l_l20_NodePatience_0)))
 (.seq (.reg [] [fi 14 (.mv (.c (.int .i64 0)))])
 (.seq (.seq (.reg [] [fi 15 (.mv (.c (.int .i64 0)))])
 (.blk 2 (.loop l_l20_NodePatience_1)))
 s_l20_NodePatience_0)))))))))))))
theorem k_l20_NodePatience : chkFn Tryz.prog n_l20_NodePatience ⟨b_l20_NodePatience, [.tmp 4], 127⟩ = true := by kernel_rfl
abbrev n_l20_alone : Nat := 20
def l_l20_alone_0 : Cd := (.seq (.seq (.reg [] [fi 16 (.mv (.t 7)),
  fi 17 (.bin .lss (.t 16) (.c (.int .i64 20)))])
 (.ite (.t 17)
 .skip
 (.exit 0)))
 (.seq (.blk 1 (.seq (.reg [] [fi 20 (.mv (.t 5)),
  fi 21 (.mv (.t 7)),
  fi 22 (.conv (.int .u64) (.t 21)),
  ei 23 (.call 17 [(.t 20), (.t 22)]),
  fi 24 (.bin .neq (.t 23) (.c (.int .i64 0)))])
 (.ite (.t 24)
 (.seq (.reg [] [fi 4 (.mv (.c (.ptr none)))])
 .ret)
 .skip)))
 (.reg [] [fi 18 (.mv (.t 7)),
  fi 19 (.bin .add (.t 18) (.c (.int .i64 1))),
  fi 7 (.mv (.t 19))])))
def b_l20_alone : Cd := (.seq (.reg [] [ei 3 (.box (.t 1)),
  fi 4 (.mv (.c (.ptr none)))])
 (.seq (.reg [] [fi 9 (.mv (.t 0)),
  fi 10 (.load true 6 (.t 3)),
  ei 11 (.call 7 [(.t 9), (.c (.int .i64 0)), (.t 10)]),
  fi 8 (.mv (.t 11)),
  fi 12 (.extract (.t 8) 0),
  fi 13 (.extract (.t 8) 1),
  fi 5 (.mv (.t 12)),
  fi 6 (.mv (.t 13))])
 (.seq (.seq (.reg [] [fi 14 (.mv (.t 6)),
  fi 15 (.bin .neq (.t 14) (.c (.int .i64 0)))])
 (.ite (.t 15)
 (.seq (.reg [] [fi 4 (.mv (.c (.ptr none)))])
 .ret)
 .skip))
 (.seq (.seq (.reg [] [fi 7 (.mv (.c (.int .i64 0)))])
 (.blk 0 (.loop l_l20_alone_0)))
 (.seq (.reg [] [fi 25 (.mv (.t 5)),
  fi 4 (.mv (.t 25))])
 .ret)))))
theorem k_l20_alone : chkFn Tryz.prog n_l20_alone ⟨b_l20_alone, [.tmp 4], 26⟩ = true := by kernel_rfl
abbrev n_l20_awake : Nat := 5
def b_l20_awake : Cd := (.seq (.reg [] [fi 0 (.mv (.c (.bool false)))])
 (.seq (.reg [] [ei 7 (.call 6 [(.c (.int .i64 1048576))]),
  fi 6 (.mv (.t 7)),
  fi 8 (.extract (.t 6) 0),
  fi 9 (.extract (.t 6) 1),
  fi 1 (.mv (.t 8)),
  fi 2 (.mv (.t 9))])
 (.seq (.reg [] [fi 10 (.mv (.t 1)),
  ei 11 (.call 21 [(.c (.int .u8 0)), (.c (.int .u8 0))]),
  ei 12 (.call 20 [(.t 10), (.t 11)]),
  fi 3 (.mv (.t 12))])
 (.seq (.seq (.reg [] [fi 13 (.mv (.t 3)),
  fi 14 (.eq false .ptr (.t 13) (.c (.ptr none))),
  fi 15 (.mv (.t 14)),
  .run ⟨(some 16), (some (15, false)), .f (.mv (.t 3))⟩,
  .run ⟨(some 17), (some (15, false)), .f (.build [(.str (mkS [])), (.int .i64 0), (.str (mkS []))] [(0, 1, (.c (.str (mkS [97]))))])⟩,
  .run ⟨(some 18), (some (15, false)), .e (.call 15 [(.t 16), (.c (.int .u64 7)), (.t 17)])⟩,
  .run ⟨(some 19), (some (15, false)), .f (.bin .neq (.t 18) (.c (.int .i64 0)))⟩,
  fi 20 (.pick (.t 15) (.c (.bool true)) (.t 19))])
 (.ite (.t 20)
 (.seq (.reg [] [fi 0 (.mv (.c (.bool false)))])
 .ret)
 .skip))
 (.seq (.reg [] [fi 22 (.mv (.t 3)),
  ei 23 (.call 22 [(.t 22), (.c (.int .u64 7))]),
  fi 21 (.mv (.t 23)),
  fi 24 (.extract (.t 21) 0),
  fi 25 (.extract (.t 21) 1),
  ei 4 (.alloc [(.int .u64 0), (.int .i64 0), (.sl [] 0 3 .nil), (.bool false), (.str (mkS []))]),
  st (.store 5 (.t 4) (.t 24)),
  fi 5 (.mv (.t 25))])
 (.seq (.reg [] [fi 26 (.mv (.t 5)),
  fi 27 (.mv (.t 26)),
  .run ⟨(some 28), (some (27, true)), .f (.fieldAddr 1 (.t 4))⟩,
  .run ⟨(some 29), (some (27, true)), .f (.load false 1 (.t 28))⟩,
  .run ⟨(some 30), (some (27, true)), .f (.bin .eql (.t 29) (.c (.int .i64 0)))⟩,
  fi 31 (.pick (.t 27) (.t 30) (.c (.bool false))),
  fi 32 (.mv (.t 31)),
  .run ⟨(some 33), (some (32, true)), .f (.mv (.t 3))⟩,
  .run ⟨(some 34), (some (32, true)), .e (.call 13 [(.t 33), (.c (.int .i64 0))])⟩,
  .run ⟨(some 35), (some (32, true)), .f (.len .sl (.t 34))⟩,
  .run ⟨(some 36), (some (32, true)), .f (.bin .eql (.t 35) (.c (.int .i64 1)))⟩,
  fi 37 (.pick (.t 32) (.t 36) (.c (.bool false))),
  fi 38 (.mv (.t 37)),
  .run ⟨(some 39), (some (38, true)), .f (.mv (.t 3))⟩,
  .run ⟨(some 40), (some (38, true)), .e (.call 14 [(.t 39), (.c (.int .i64 0))])⟩,
  .run ⟨(some 41), (some (38, true)), .f (.bin .geq (.t 40) (.c (.int .u64 1)))⟩,
  fi 42 (.pick (.t 38) (.t 41) (.c (.bool false))),
  fi 43 (.mv (.t 42)),
  .run ⟨(some 44), (some (43, true)), .f (.mv (.t 3))⟩,
  .run ⟨(some 45), (some (43, true)), .e (.call 12 [(.t 44)])⟩,
  .run ⟨(some 46), (some (43, true)), .f (.bin .eql (.t 45) (.c (.int .i64 0)))⟩,
  fi 47 (.pick (.t 43) (.t 46) (.c (.bool false))),
  fi 0 (.mv (.t 47))])
 .ret))))))
theorem k_l20_awake : chkFn Tryz.prog n_l20_awake ⟨b_l20_awake, [.tmp 0], 48⟩ = true := by kernel_rfl
abbrev n_l20_config : Nat := 21
def b_l20_config : Cd := (.seq (.reg [] [ei 4 (.alloc [(.int .i64 0), (.int .i64 0), (.int .i64 0), (.int .i64 0), (.int .i64 0), (.int .i64 0)])])
 (.seq (.reg [] [fi 5 (.mv (.t 0)),
  fi 6 (.conv (.int .i64) (.t 5)),
  fi 7 (.bin .rem (.t 6) (.c (.int .i64 8))),
  fi 8 (.bin .add (.c (.int .i64 1)) (.t 7)),
  fi 9 (.mv (.t 1)),
  fi 10 (.conv (.int .i64) (.t 9)),
  fi 11 (.bin .rem (.t 10) (.c (.int .i64 64))),
  fi 12 (.bin .add (.c (.int .i64 1)) (.t 11)),
  fi 13 (.build [(.int .i64 0), (.int .i64 0), (.int .i64 0), (.int .i64 0), (.int .i64 0), (.int .i64 0)] [(0, 1, (.c (.int .i64 1))), (1, 1, (.t 8)), (2, 1, (.c (.int .i64 1))), (3, 1, (.t 12)), (4, 1, (.c (.int .i64 2))), (5, 1, (.c (.int .i64 4194304)))]),
  st (.store 6 (.t 4) (.t 13))])
 .ret))
theorem k_l20_config : chkFn Tryz.prog n_l20_config ⟨b_l20_config, [.cell 4 true 6], 14⟩ = true := by kernel_rfl
abbrev n_l20_result : Nat := 22
def b_l20_result : Cd := (.seq (.reg [] [ei 4 (.alloc [(.int .u64 0), (.int .i64 0), (.sl [] 0 3 .nil), (.bool false), (.str (mkS []))]),
  fi 5 (.mv (.c (.bool false)))])
 (.seq (.reg [] [fi 7 (.mv (.t 0)),
  ei 8 (.call 19 [(.t 7)]),
  fi 6 (.mv (.t 8))])
 (.seq (.seq (.reg [] [fi 9 (.mv (.t 6)),
  fi 10 (.len .sl (.t 9)),
  fi 11 (.bin .neq (.t 10) (.c (.int .i64 1))),
  fi 12 (.mv (.t 11)),
  .run ⟨(some 13), (some (12, false)), .f (.mv (.t 6))⟩,
  .run ⟨(some 14), (some (12, false)), .f (.indexAddr 5 (.t 13) (.c (.int .i64 0)))⟩,
  .run ⟨(some 15), (some (12, false)), .f (.fieldAddr 0 (.t 14))⟩,
  .run ⟨(some 16), (some (12, false)), .f (.load false 1 (.t 15))⟩,
  .run ⟨(some 17), (some (12, false)), .f (.mv (.t 1))⟩,
  .run ⟨(some 18), (some (12, false)), .f (.bin .neq (.t 16) (.t 17))⟩,
  fi 19 (.pick (.t 12) (.c (.bool true)) (.t 18))])
 (.ite (.t 19)
 (.seq (.reg [] [fi 20 (.build [(.int .u64 0), (.int .i64 0), (.sl [] 0 3 .nil), (.bool false), (.str (mkS []))] []),
  st (.store 5 (.t 4) (.t 20)),
  fi 5 (.mv (.c (.bool false)))])
 .ret)
 .skip))
 (.seq (.reg [] [fi 21 (.mv (.t 6)),
  fi 22 (.indexAddr 5 (.t 21) (.c (.int .i64 0))),
  fi 23 (.load true 5 (.t 22)),
  st (.store 5 (.t 4) (.t 23)),
  fi 5 (.mv (.c (.bool true)))])
 .ret))))
theorem k_l20_result : chkFn Tryz.prog n_l20_result ⟨b_l20_result, [.cell 4 true 5, .tmp 5], 24⟩ = true := by kernel_rfl
abbrev n_pack_Frame : Nat := 157
def b_pack_Frame : Cd := (.seq (.reg [] [fi 2 (.mv (.c (.sl [] 0 1 .nil))),
  fi 3 (.mv (.c (.int .i64 0)))])
 (.seq (.seq (.reg [] [fi 5 (.mv (.t 0)),
  fi 6 (.len .sl (.t 5)),
  fi 7 (.bin .gtr (.t 6) (.c (.int .i64 65535)))])
 (.ite (.t 7)
 (.seq (.reg [] [fi 2 (.mv (.c (.sl [] 0 1 .nil))),
  fi 3 (.mv (.c (.int .i64 2)))])
 .ret)
 .skip))
 (.seq (.reg [] [ei 8 (.buildSlice 1 1 0 [(.int .u8 0)] [(0, 1, (.c (.int .u8 241)))]),
  fi 9 (.mv (.t 0)),
  fi 10 (.len .sl (.t 9)),
  fi 11 (.conv (.int .u64) (.t 10)),
  ei 12 (.call 125 [(.t 11)]),
  ei 13 (.append 1 1 false (.t 8) (.t 12)),
  fi 4 (.mv (.t 13))])
 (.seq (.reg [] [fi 14 (.mv (.t 4)),
  fi 15 (.mv (.t 0)),
  ei 16 (.call 218 [(.t 15)]),
  ei 17 (.call 224 [(.t 16)]),
  ei 18 (.append 1 1 false (.t 14) (.t 17)),
  fi 4 (.mv (.t 18))])
 (.seq (.reg [] [fi 19 (.mv (.t 4)),
  fi 20 (.mv (.t 0)),
  ei 21 (.append 1 1 false (.t 19) (.t 20)),
  fi 4 (.mv (.t 21))])
 (.seq (.reg [] [fi 22 (.mv (.t 4)),
  ei 23 (.buildSlice 1 1 0 [(.int .u8 0)] [(0, 1, (.c (.int .u8 31)))]),
  ei 24 (.append 1 1 false (.t 22) (.t 23)),
  fi 2 (.mv (.t 24)),
  fi 3 (.mv (.c (.int .i64 0)))])
 .ret))))))
theorem k_pack_Frame : chkFn Tryz.prog n_pack_Frame ⟨b_pack_Frame, [.tmp 2, .tmp 3], 25⟩ = true := by kernel_rfl
abbrev n_pack_ReadFrame : Nat := 156
def b_pack_ReadFrame : Cd := (.seq (.reg [] [fi 4 (.mv (.c (.sl [] 0 1 .nil))),
  fi 5 (.mv (.c (.int .i64 0))),
  fi 6 (.mv (.c (.int .i64 0)))])
 (.seq (.seq (.reg [] [fi 11 (.mv (.t 1)),
  fi 12 (.bin .lss (.t 11) (.c (.int .i64 0))),
  fi 13 (.mv (.t 12)),
  .run ⟨(some 14), (some (13, false)), .f (.mv (.t 1))⟩,
  .run ⟨(some 15), (some (13, false)), .f (.mv (.t 0))⟩,
  .run ⟨(some 16), (some (13, false)), .f (.len .sl (.t 15))⟩,
  .run ⟨(some 17), (some (13, false)), .f (.bin .gtr (.t 14) (.t 16))⟩,
  fi 18 (.pick (.t 13) (.c (.bool true)) (.t 17))])
 (.ite (.t 18)
 (.seq (.reg [] [fi 4 (.mv (.c (.sl [] 0 1 .nil))),
  fi 5 (.mv (.c (.int .i64 0))),
  fi 6 (.mv (.c (.int .i64 1)))])
 .ret)
 .skip))
 (.seq (.seq (.reg [] [fi 19 (.mv (.t 1)),
  fi 20 (.mv (.t 0)),
  fi 21 (.len .sl (.t 20)),
  fi 22 (.bin .eql (.t 19) (.t 21))])
 (.ite (.t 22)
 (.seq (.reg [] [fi 4 (.mv (.c (.sl [] 0 1 .nil))),
  fi 5 (.mv (.c (.int .i64 0))),
  fi 6 (.mv (.c (.int .i64 8)))])
 .ret)
 .skip))
 (.seq (.reg [] [fi 24 (.mv (.t 0)),
  fi 25 (.mv (.t 1)),
  fi 26 (.bin .add (.t 25) (.c (.int .i64 1))),
  ei 27 (.call 94 [(.t 24), (.t 26)]),
  fi 23 (.mv (.t 27)),
  fi 28 (.extract (.t 23) 0),
  fi 29 (.extract (.t 23) 1),
  fi 30 (.extract (.t 23) 2),
  fi 7 (.mv (.t 28)),
  fi 8 (.mv (.t 29)),
  fi 9 (.mv (.t 30))])
 (.seq (.seq (.reg [] [fi 31 (.mv (.t 0)),
  fi 32 (.mv (.t 1)),
  fi 33 (.indexAddr 1 (.t 31) (.t 32)),
  fi 34 (.load false 1 (.t 33)),
  fi 35 (.bin .neq (.t 34) (.c (.int .u8 241))),
  fi 36 (.mv (.t 35)),
  .run ⟨(some 37), (some (36, false)), .f (.mv (.t 9))⟩,
  .run ⟨(some 38), (some (36, false)), .f (.bin .neq (.t 37) (.c (.int .i64 0)))⟩,
  fi 39 (.pick (.t 36) (.c (.bool true)) (.t 38)),
  fi 40 (.mv (.t 39)),
  .run ⟨(some 41), (some (40, false)), .f (.mv (.t 7))⟩,
  .run ⟨(some 42), (some (40, false)), .f (.bin .gtr (.t 41) (.c (.int .u64 65535)))⟩,
  fi 43 (.pick (.t 40) (.c (.bool true)) (.t 42)),
  fi 44 (.mv (.t 43)),
  .run ⟨(some 45), (some (44, false)), .f (.mv (.t 7))⟩,
  .run ⟨(some 46), (some (44, false)), .f (.conv (.int .i64) (.t 45))⟩,
  .run ⟨(some 47), (some (44, false)), .f (.mv (.t 0))⟩,
  .run ⟨(some 48), (some (44, false)), .f (.len .sl (.t 47))⟩,
  .run ⟨(some 49), (some (44, false)), .f (.mv (.t 8))⟩,
  .run ⟨(some 50), (some (44, false)), .f (.bin .sub (.t 48) (.t 49))⟩,
  .run ⟨(some 51), (some (44, false)), .f (.bin .sub (.t 50) (.c (.int .i64 5)))⟩,
  .run ⟨(some 52), (some (44, false)), .f (.bin .gtr (.t 46) (.t 51))⟩,
  fi 53 (.pick (.t 44) (.c (.bool true)) (.t 52)),
  fi 54 (.mv (.t 53)),
  .run ⟨(some 55), (some (54, false)), .f (.mv (.t 0))⟩,
  .run ⟨(some 56), (some (54, false)), .f (.mv (.t 8))⟩,
  .run ⟨(some 57), (some (54, false)), .f (.bin .add (.t 56) (.c (.int .i64 4)))⟩,
  .run ⟨(some 58), (some (54, false)), .f (.mv (.t 7))⟩,
  .run ⟨(some 59), (some (54, false)), .f (.conv (.int .i64) (.t 58))⟩,
  .run ⟨(some 60), (some (54, false)), .f (.bin .add (.t 57) (.t 59))⟩,
  .run ⟨(some 61), (some (54, false)), .f (.indexAddr 1 (.t 55) (.t 60))⟩,
  .run ⟨(some 62), (some (54, false)), .f (.load false 1 (.t 61))⟩,
  .run ⟨(some 63), (some (54, false)), .f (.bin .neq (.t 62) (.c (.int .u8 31)))⟩,
  fi 64 (.pick (.t 54) (.c (.bool true)) (.t 63))])
 (.ite (.t 64)
 (.seq (.reg [] [fi 4 (.mv (.c (.sl [] 0 1 .nil))),
  fi 5 (.mv (.c (.int .i64 0))),
  fi 6 (.mv (.c (.int .i64 3)))])
 .ret)
 .skip))
 (.seq (.reg [] [fi 65 (.mv (.t 0)),
  fi 66 (.mv (.t 8)),
  fi 67 (.bin .add (.t 66) (.c (.int .i64 4))),
  fi 68 (.mv (.t 8)),
  fi 69 (.bin .add (.t 68) (.c (.int .i64 4))),
  fi 70 (.mv (.t 7)),
  fi 71 (.conv (.int .i64) (.t 70)),
  fi 72 (.bin .add (.t 69) (.t 71)),
  fi 73 (.slice 1 (.t 65) (some (.t 67)) (some (.t 72)) none),
  ei 74 (.append 1 1 false (.c (.sl [] 0 1 .nil)) (.t 73)),
  fi 10 (.mv (.t 74))])
 (.seq (.seq (.reg [0, 1, 2, 3, 4, 5, 6, 7, 5, 8, 5, 9, 10] [fi 75 (.mv (.t 0)),
  fi 76 (.mv (.t 8)),
  fi 77 (.mv (.t 8)),
  fi 78 (.bin .add (.t 77) (.c (.int .i64 4))),
  fi 79 (.slice 1 (.t 75) (some (.t 76)) (some (.t 78)) none),
  fi 80 (.conv .bytesStr (.t 79)),
  fi 81 (.mv (.t 10)),
  ei 82 (.call 218 [(.t 81)]),
  .chk 80 none (.conv .bytesStr (.t 79)),
  ei 83 (.call 224 [(.t 82)]),
  .chk 80 none (.conv .bytesStr (.t 79)),
  fi 84 (.conv .bytesStr (.t 83)),
  fi 85 (.bin .neq (.t 80) (.t 84))])
 (.ite (.t 85)
 (.seq (.reg [] [fi 4 (.mv (.c (.sl [] 0 1 .nil))),
  fi 5 (.mv (.c (.int .i64 0))),
  fi 6 (.mv (.c (.int .i64 5)))])
 .ret)
 .skip))
 (.seq (.reg [] [fi 86 (.mv (.t 10)),
  fi 87 (.mv (.t 8)),
  fi 88 (.bin .add (.t 87) (.c (.int .i64 5))),
  fi 89 (.mv (.t 7)),
  fi 90 (.conv (.int .i64) (.t 89)),
  fi 91 (.bin .add (.t 88) (.t 90)),
  fi 4 (.mv (.t 86)),
  fi 5 (.mv (.t 91)),
  fi 6 (.mv (.c (.int .i64 0)))])
 .ret))))))))
theorem k_pack_ReadFrame : chkFn Tryz.prog n_pack_ReadFrame ⟨b_pack_ReadFrame, [.tmp 4, .tmp 5, .tmp 6], 92⟩ = true := by kernel_rfl
abbrev n_pack_ReadText : Nat := 164
def k_pack_ReadText_0 : Cd := (.seq (.reg [] [fi 20 (.mv (.t 11)),
  fi 21 (.bin .neq (.t 20) (.c (.int .i64 0))),
  fi 19 (.mv (.t 21))])
 (.ite (.t 19)
 (.seq (.reg [] [fi 22 (.mv (.t 11)),
  fi 6 (.mv (.c (.str (mkS [])))),
  fi 7 (.mv (.c (.int .i64 0))),
  fi 8 (.mv (.t 22))])
 .ret)
 (.seq (.reg [] [fi 24 (.mv (.t 9)),
  fi 25 (.mv (.t 0)),
  fi 26 (.len .sl (.t 25)),
  fi 27 (.mv (.t 10)),
  fi 28 (.bin .sub (.t 26) (.t 27)),
  fi 29 (.conv (.int .u64) (.t 28)),
  fi 30 (.bin .gtr (.t 24) (.t 29)),
  fi 23 (.mv (.t 30))])
 (.ite (.t 23)
 (.seq (.reg [] [fi 6 (.mv (.c (.str (mkS [])))),
  fi 7 (.mv (.c (.int .i64 0))),
  fi 8 (.mv (.c (.int .i64 3)))])
 .ret)
 (.seq (.reg [] [fi 32 (.mv (.t 2)),
  fi 33 (.bin .lss (.t 32) (.c (.int .i64 0))),
  fi 34 (.mv (.t 33)),
  .run ⟨(some 35), (some (34, false)), .f (.mv (.t 9))⟩,
  .run ⟨(some 36), (some (34, false)), .f (.mv (.t 2))⟩,
  .run ⟨(some 37), (some (34, false)), .f (.conv (.int .u64) (.t 36))⟩,
  .run ⟨(some 38), (some (34, false)), .f (.bin .gtr (.t 35) (.t 37))⟩,
  fi 39 (.pick (.t 34) (.c (.bool true)) (.t 38)),
  fi 31 (.mv (.t 39))])
 (.ite (.t 31)
 (.seq (.reg [] [fi 6 (.mv (.c (.str (mkS [])))),
  fi 7 (.mv (.c (.int .i64 0))),
  fi 8 (.mv (.c (.int .i64 2)))])
 .ret)
 .skip))))))
def s_pack_ReadText_0 : Cd := (.seq (.reg [] [fi 40 (.mv (.t 0)),
  fi 41 (.mv (.t 10)),
  fi 42 (.mv (.t 10)),
  fi 43 (.mv (.t 9)),
  fi 44 (.conv (.int .i64) (.t 43)),
  fi 45 (.bin .add (.t 42) (.t 44)),
  fi 46 (.slice 1 (.t 40) (some (.t 41)) (some (.t 45)) none),
  fi 47 (.conv .bytesStr (.t 46)),
  fi 48 (.mv (.t 10)),
  fi 49 (.mv (.t 9)),
  fi 50 (.conv (.int .i64) (.t 49)),
  fi 51 (.bin .add (.t 48) (.t 50)),
  fi 6 (.mv (.t 47)),
  fi 7 (.mv (.t 51)),
  fi 8 (.mv (.c (.int .i64 0)))])
 .ret)
def b_pack_ReadText : Cd := (.seq (.reg [] [fi 6 (.mv (.c (.str (mkS [])))),
  fi 7 (.mv (.c (.int .i64 0))),
  fi 8 (.mv (.c (.int .i64 0)))])
 (.seq (.reg [] [fi 13 (.mv (.t 0)),
  fi 14 (.mv (.t 1)),
  ei 15 (.call 94 [(.t 13), (.t 14)]),
  fi 12 (.mv (.t 15)),
  fi 16 (.extract (.t 12) 0),
  fi 17 (.extract (.t 12) 1),
  fi 18 (.extract (.t 12) 2),
  fi 9 (.mv (.t 16)),
  fi 10 (.mv (.t 17)),
  fi 11 (.mv (.t 18))])
 (.seq (.blk 0 k_pack_ReadText_0)
 s_pack_ReadText_0)))
theorem k_pack_ReadText : chkFn Tryz.prog n_pack_ReadText ⟨b_pack_ReadText, [.tmp 6, .tmp 7, .tmp 8], 52⟩ = true := by kernel_rfl
abbrev n_pack_ReadUvarint : Nat := 94
def k_pack_ReadUvarint_0 : Cd := (.seq (.reg [] [fi 26 (.mv (.t 8)),
  fi 27 (.mv (.t 1)),
  fi 28 (.bin .sub (.t 26) (.t 27)),
  fi 9 (.mv (.t 28))])
 (.seq (.reg [] [fi 29 (.mv (.t 0)),
  fi 30 (.mv (.t 8)),
  fi 31 (.indexAddr 1 (.t 29) (.t 30)),
  fi 32 (.load false 1 (.t 31)),
  fi 10 (.mv (.t 32))])
 (.seq (.seq (.reg [] [fi 33 (.mv (.t 9)),
  fi 34 (.bin .eql (.t 33) (.c (.int .i64 9))),
  fi 35 (.mv (.t 34)),
  .run ⟨(some 36), (some (35, true)), .f (.mv (.t 10))⟩,
  .run ⟨(some 37), (some (35, true)), .f (.bin .gtr (.t 36) (.c (.int .u8 1)))⟩,
  fi 38 (.pick (.t 35) (.t 37) (.c (.bool false))),
  fi 39 (.mv (.t 38)),
  .run ⟨(some 40), (some (39, false)), .f (.mv (.t 10))⟩,
  .run ⟨(some 41), (some (39, false)), .f (.bin .eql (.t 40) (.c (.int .u8 0)))⟩,
  .run ⟨(some 42), (some (39, false)), .f (.mv (.t 41))⟩,
  .run ⟨(some 43), (some (42, true)), .f (.mv (.t 9))⟩,
  .run ⟨(some 44), (some (42, true)), .f (.bin .gtr (.t 43) (.c (.int .i64 0)))⟩,
  .run ⟨(some 45), (some (39, false)), .f (.pick (.t 42) (.t 44) (.c (.bool false)))⟩,
  fi 46 (.pick (.t 39) (.c (.bool true)) (.t 45))])
 (.ite (.t 46)
 (.seq (.reg [] [fi 4 (.mv (.c (.int .u64 0))),
  fi 5 (.mv (.c (.int .i64 0))),
  fi 6 (.mv (.c (.int .i64 3)))])
 .ret)
 .skip))
 (.seq (.reg [] [fi 47 (.mv (.t 7)),
  fi 48 (.mv (.t 10)),
  fi 49 (.bin .and (.t 48) (.c (.int .u8 127))),
  fi 50 (.conv (.int .u64) (.t 49)),
  fi 51 (.mv (.t 9)),
  fi 52 (.bin .mul (.c (.int .i64 7)) (.t 51)),
  fi 53 (.bin .shl (.t 50) (.t 52)),
  fi 54 (.bin .or (.t 47) (.t 53)),
  fi 7 (.mv (.t 54))])
 (.seq (.reg [] [fi 55 (.mv (.t 10)),
  fi 56 (.bin .lss (.t 55) (.c (.int .u8 128)))])
 (.ite (.t 56)
 (.seq (.reg [] [fi 57 (.mv (.t 7)),
  fi 58 (.mv (.t 8)),
  fi 59 (.bin .add (.t 58) (.c (.int .i64 1))),
  fi 4 (.mv (.t 57)),
  fi 5 (.mv (.t 59)),
  fi 6 (.mv (.c (.int .i64 0)))])
 .ret)
 .skip))))))
def l_pack_ReadUvarint_0 : Cd := (.seq (.seq (.reg [] [fi 20 (.mv (.t 8)),
  fi 21 (.mv (.t 0)),
  fi 22 (.len .sl (.t 21)),
  fi 23 (.bin .lss (.t 20) (.t 22))])
 (.ite (.t 23)
 .skip
 (.exit 0)))
 (.seq (.blk 1 k_pack_ReadUvarint_0)
 (.reg [] [fi 24 (.mv (.t 8)),
  fi 25 (.bin .add (.t 24) (.c (.int .i64 1))),
  fi 8 (.mv (.t 25))])))
def b_pack_ReadUvarint : Cd := (.seq (.reg [] [fi 4 (.mv (.c (.int .u64 0))),
  fi 5 (.mv (.c (.int .i64 0))),
  fi 6 (.mv (.c (.int .i64 0)))])
 (.seq (.seq (.reg [] [fi 11 (.mv (.t 1)),
  fi 12 (.bin .lss (.t 11) (.c (.int .i64 0))),
  fi 13 (.mv (.t 12)),
  .run ⟨(some 14), (some (13, false)), .f (.mv (.t 1))⟩,
  .run ⟨(some 15), (some (13, false)), .f (.mv (.t 0))⟩,
  .run ⟨(some 16), (some (13, false)), .f (.len .sl (.t 15))⟩,
  .run ⟨(some 17), (some (13, false)), .f (.bin .gtr (.t 14) (.t 16))⟩,
  fi 18 (.pick (.t 13) (.c (.bool true)) (.t 17))])
 (.ite (.t 18)
 (.seq (.reg [] [fi 4 (.mv (.c (.int .u64 0))),
  fi 5 (.mv (.c (.int .i64 0))),
  fi 6 (.mv (.c (.int .i64 1)))])
 .ret)
 .skip))
 (.seq (.reg [] [fi 7 (.mv (.c (.int .u64 0)))])
 (.seq (.seq (.reg [] [fi 19 (.mv (.t 1)),
  fi 8 (.mv (.t 19))])
 (.blk 0 (.loop l_pack_ReadUvarint_0)))
 (.seq (.reg [] [fi 4 (.mv (.c (.int .u64 0))),
  fi 5 (.mv (.c (.int .i64 0))),
  fi 6 (.mv (.c (.int .i64 3)))])
 .ret)))))
theorem k_pack_ReadUvarint : chkFn Tryz.prog n_pack_ReadUvarint ⟨b_pack_ReadUvarint, [.tmp 4, .tmp 5, .tmp 6], 60⟩ = true := by kernel_rfl
abbrev n_pack_Sum : Nat := 218
def l_pack_Sum_0 : Cd := (.seq (.reg [] [fi 17 (.bin .lss (.t 16) (.c (.int .i64 8)))])
 (.seq (.ite (.t 17)
 .skip
 (.exit 2))
 (.seq (.blk 3 (.seq (.reg [] [fi 18 (.mv (.t 3)),
  fi 19 (.bin .and (.t 18) (.c (.int .u32 1))),
  fi 20 (.bin .eql (.t 19) (.c (.int .u32 1)))])
 (.ite (.t 20)
 (.reg [] [fi 21 (.mv (.t 3)),
  fi 22 (.bin .shr (.t 21) (.c (.int .u64 1))),
  fi 23 (.bin .xor (.t 22) (.c (.int .u32 3988292384))),
  fi 3 (.mv (.t 23))])
 (.reg [] [fi 24 (.mv (.t 3)),
  fi 25 (.bin .shr (.t 24) (.c (.int .u64 1))),
  fi 3 (.mv (.t 25))]))))
 (.reg [] [fi 26 (.bin .add (.t 16) (.c (.int .i64 1))),
  fi 16 (.mv (.t 26))]))))
def l_pack_Sum_1 : Cd := (.seq (.reg [] [fi 9 (.bin .lss (.t 8) (.t 7))])
 (.seq (.ite (.t 9)
 .skip
 (.exit 0))
 (.seq (.blk 1 (.seq (.reg [] [fi 10 (.indexAddr 1 (.t 6) (.t 8)),
  fi 11 (.load false 1 (.t 10)),
  fi 5 (.mv (.t 11))])
 (.seq (.reg [] [fi 12 (.mv (.t 3)),
  fi 13 (.mv (.t 5)),
  fi 14 (.conv (.int .u32) (.t 13)),
  fi 15 (.bin .xor (.t 12) (.t 14)),
  fi 3 (.mv (.t 15))])
 (.seq (.reg [] [fi 16 (.mv (.c (.int .i64 0)))])
 (.blk 2 (.loop l_pack_Sum_0))))))
 (.reg [] [fi 27 (.bin .add (.t 8) (.c (.int .i64 1))),
  fi 8 (.mv (.t 27))]))))
def b_pack_Sum : Cd := (.seq (.reg [] [fi 2 (.mv (.c (.int .u32 0)))])
 (.seq (.reg [] [fi 3 (.mv (.c (.int .u32 4294967295)))])
 (.seq (.seq (.reg [] [fi 6 (.mv (.t 0)),
  fi 7 (.len .sl (.t 6)),
  fi 8 (.mv (.c (.int .i64 0)))])
 (.blk 0 (.loop l_pack_Sum_1)))
 (.seq (.reg [] [fi 28 (.mv (.t 3)),
  fi 29 (.un .xor (.t 28)),
  fi 2 (.mv (.t 29))])
 .ret))))
theorem k_pack_Sum : chkFn Tryz.prog n_pack_Sum ⟨b_pack_Sum, [.tmp 2], 30⟩ = true := by kernel_rfl
abbrev n_pack_Text : Nat := 197
def b_pack_Text : Cd := (.seq (.reg [] [fi 2 (.mv (.c (.sl [] 0 1 .nil)))])
 (.seq (.reg [] [fi 3 (.mv (.t 0)),
  fi 4 (.len .str (.t 3)),
  fi 5 (.conv (.int .u64) (.t 4)),
  ei 6 (.call 125 [(.t 5)]),
  fi 7 (.mv (.t 0)),
  ei 8 (.append 1 1 false (.t 6) (.t 7)),
  fi 2 (.mv (.t 8))])
 .ret))
theorem k_pack_Text : chkFn Tryz.prog n_pack_Text ⟨b_pack_Text, [.tmp 2], 9⟩ = true := by kernel_rfl
abbrev n_pack_Uvarint : Nat := 125
def l_pack_Uvarint_0 : Cd := (.seq (.seq (.reg [] [fi 4 (.mv (.t 0)),
  fi 5 (.bin .geq (.t 4) (.c (.int .u64 128)))])
 (.ite (.t 5)
 .skip
 (.exit 0)))
 (.seq (.blk 1 (.reg [] [fi 8 (.mv (.t 3)),
  fi 9 (.mv (.t 0)),
  fi 10 (.conv (.int .u8) (.t 9)),
  fi 11 (.bin .or (.t 10) (.c (.int .u8 128))),
  ei 12 (.buildSlice 1 1 0 [(.int .u8 0)] [(0, 1, (.t 11))]),
  ei 13 (.append 1 1 false (.t 8) (.t 12)),
  fi 3 (.mv (.t 13))]))
 (.reg [] [fi 6 (.mv (.t 0)),
  fi 7 (.bin .shr (.t 6) (.c (.int .u64 7))),
  fi 0 (.mv (.t 7))])))
def b_pack_Uvarint : Cd := (.seq (.reg [] [fi 2 (.mv (.c (.sl [] 0 1 .nil)))])
 (.seq (.reg [] [fi 3 (.mv (.c (.sl [] 0 1 .nil)))])
 (.seq (.blk 0 (.loop l_pack_Uvarint_0))
 (.seq (.reg [] [fi 14 (.mv (.t 3)),
  fi 15 (.mv (.t 0)),
  fi 16 (.conv (.int .u8) (.t 15)),
  ei 17 (.buildSlice 1 1 0 [(.int .u8 0)] [(0, 1, (.t 16))]),
  ei 18 (.append 1 1 false (.t 14) (.t 17)),
  fi 2 (.mv (.t 18))])
 .ret))))
theorem k_pack_Uvarint : chkFn Tryz.prog n_pack_Uvarint ⟨b_pack_Uvarint, [.tmp 2], 19⟩ = true := by kernel_rfl
abbrev n_pack_Zag : Nat := 165
def b_pack_Zag : Cd := (.seq (.reg [] [fi 2 (.mv (.c (.int .i64 0)))])
 (.seq (.reg [] [fi 3 (.mv (.t 0)),
  fi 4 (.bin .shr (.t 3) (.c (.int .u64 1))),
  fi 5 (.conv (.int .i64) (.t 4)),
  fi 6 (.mv (.t 0)),
  fi 7 (.bin .and (.t 6) (.c (.int .u64 1))),
  fi 8 (.conv (.int .i64) (.t 7)),
  fi 9 (.un .neg (.t 8)),
  fi 10 (.bin .xor (.t 5) (.t 9)),
  fi 2 (.mv (.t 10))])
 .ret))
theorem k_pack_Zag : chkFn Tryz.prog n_pack_Zag ⟨b_pack_Zag, [.tmp 2], 11⟩ = true := by kernel_rfl
abbrev n_pack_Zig : Nat := 196
def b_pack_Zig : Cd := (.seq (.reg [] [fi 2 (.mv (.c (.int .u64 0)))])
 (.seq (.reg [] [fi 3 (.mv (.t 0)),
  fi 4 (.conv (.int .u64) (.t 3)),
  fi 5 (.bin .shl (.t 4) (.c (.int .u64 1))),
  fi 6 (.mv (.t 0)),
  fi 7 (.bin .shr (.t 6) (.c (.int .u64 63))),
  fi 8 (.conv (.int .u64) (.t 7)),
  fi 9 (.bin .xor (.t 5) (.t 8)),
  fi 2 (.mv (.t 9))])
 .ret))
theorem k_pack_Zig : chkFn Tryz.prog n_pack_Zig ⟨b_pack_Zig, [.tmp 2], 10⟩ = true := by kernel_rfl
abbrev n_pack_four : Nat := 224
def b_pack_four : Cd := (.seq (.reg [] [fi 2 (.mv (.c (.sl [] 0 1 .nil)))])
 (.seq (.reg [] [fi 3 (.mv (.t 0)),
  fi 4 (.bin .shr (.t 3) (.c (.int .u64 24))),
  fi 5 (.conv (.int .u8) (.t 4)),
  fi 6 (.mv (.t 0)),
  fi 7 (.bin .shr (.t 6) (.c (.int .u64 16))),
  fi 8 (.conv (.int .u8) (.t 7)),
  fi 9 (.mv (.t 0)),
  fi 10 (.bin .shr (.t 9) (.c (.int .u64 8))),
  fi 11 (.conv (.int .u8) (.t 10)),
  fi 12 (.mv (.t 0)),
  fi 13 (.conv (.int .u8) (.t 12)),
  ei 14 (.buildSlice 4 1 0 [(.int .u8 0), (.int .u8 0), (.int .u8 0), (.int .u8 0)] [(0, 1, (.t 5)), (1, 1, (.t 8)), (2, 1, (.t 11)), (3, 1, (.t 13))]),
  fi 2 (.mv (.t 14))])
 .ret))
theorem k_pack_four : chkFn Tryz.prog n_pack_four ⟨b_pack_four, [.tmp 2], 15⟩ = true := by kernel_rfl
abbrev n_raft_Node_Entry : Nat := 108
def b_raft_Node_Entry : Cd := (.seq (.reg [] [fi 4 (.mv (.c (.sl [] 0 1 .nil))),
  fi 5 (.mv (.c (.int .u64 0))),
  fi 6 (.mv (.c (.int .i64 0)))])
 (.seq (.seq (.reg [] [fi 7 (.mv (.t 0)),
  fi 8 (.eq false .ptr (.t 7) (.c (.ptr none))),
  fi 9 (.mv (.t 8)),
  .run ⟨(some 10), (some (9, false)), .f (.mv (.t 1))⟩,
  .run ⟨(some 11), (some (9, false)), .f (.bin .lss (.t 10) (.c (.int .i64 1)))⟩,
  fi 12 (.pick (.t 9) (.c (.bool true)) (.t 11)),
  fi 13 (.mv (.t 12)),
  .run ⟨(some 14), (some (13, false)), .f (.mv (.t 1))⟩,
  .run ⟨(some 15), (some (13, false)), .f (.mv (.t 0))⟩,
  .run ⟨(some 16), (some (13, false)), .f (.nilCheck (.t 15))⟩,
  .run ⟨(some 17), (some (13, false)), .f (.fieldAddr 5 (.t 16))⟩,
  .run ⟨(some 18), (some (13, false)), .f (.load false 1 (.t 17))⟩,
  .run ⟨(some 19), (some (13, false)), .f (.len .sl (.t 18))⟩,
  .run ⟨(some 20), (some (13, false)), .f (.bin .gtr (.t 14) (.t 19))⟩,
  fi 21 (.pick (.t 13) (.c (.bool true)) (.t 20))])
 (.ite (.t 21)
 (.seq (.reg [] [fi 4 (.mv (.c (.sl [] 0 1 .nil))),
  fi 5 (.mv (.c (.int .u64 0))),
  fi 6 (.mv (.c (.int .i64 8)))])
 .ret)
 .skip))
 (.seq (.reg [0, 1, 2, 3, 4, 5, 6, 7, 8, 10, 11, 12, 13, 14, 15, 16, 17, 18, 9, 13, 18, 19, 20, 21] [fi 22 (.mv (.t 0)),
  fi 23 (.nilCheck (.t 22)),
  fi 24 (.fieldAddr 5 (.t 23)),
  fi 25 (.load false 1 (.t 24)),
  fi 26 (.mv (.t 1)),
  fi 27 (.bin .sub (.t 26) (.c (.int .i64 1))),
  fi 28 (.indexAddr 2 (.t 25) (.t 27)),
  fi 29 (.fieldAddr 1 (.t 28)),
  fi 30 (.load false 1 (.t 29)),
  fi 32 (.mv (.t 0)),
  fi 33 (.nilCheck (.t 32)),
  fi 34 (.fieldAddr 5 (.t 33)),
  fi 35 (.load false 1 (.t 34)),
  fi 36 (.mv (.t 1)),
  fi 37 (.bin .sub (.t 36) (.c (.int .i64 1))),
  fi 38 (.indexAddr 2 (.t 35) (.t 37)),
  fi 39 (.fieldAddr 0 (.t 38)),
  fi 40 (.load false 1 (.t 39)),
  ei 31 (.call 95 [(.t 30)]),
  .chk 35 none (.load false 1 (.t 34)),
  .chk 40 none (.load false 1 (.t 39)),
  fi 4 (.mv (.t 31)),
  fi 5 (.mv (.t 40)),
  fi 6 (.mv (.c (.int .i64 0)))])
 .ret)))
theorem k_raft_Node_Entry : chkFn Tryz.prog n_raft_Node_Entry ⟨b_raft_Node_Entry, [.tmp 4, .tmp 5, .tmp 6], 41⟩ = true := by kernel_rfl
abbrev n_raft_Node_Out : Nat := 60
def b_raft_Node_Out : Cd := (.seq (.reg [] [fi 2 (.mv (.c (.sl [] 0 3 .nil)))])
 (.seq (.seq (.reg [] [fi 4 (.mv (.t 0)),
  fi 5 (.eq false .ptr (.t 4) (.c (.ptr none)))])
 (.ite (.t 5)
 (.seq (.reg [] [fi 2 (.mv (.c (.sl [] 0 3 .nil)))])
 .ret)
 .skip))
 (.seq (.reg [] [fi 6 (.mv (.t 0)),
  fi 7 (.nilCheck (.t 6)),
  fi 8 (.fieldAddr 15 (.t 7)),
  fi 9 (.load false 1 (.t 8)),
  fi 3 (.mv (.t 9))])
 (.seq (.reg [] [fi 10 (.mv (.t 0)),
  fi 11 (.nilCheck (.t 10)),
  fi 12 (.fieldAddr 15 (.t 11)),
  st (.store 1 (.t 12) (.c (.sl [] 0 3 .nil)))])
 (.seq (.reg [] [fi 13 (.mv (.t 3)),
  fi 2 (.mv (.t 13))])
 .ret)))))
theorem k_raft_Node_Out : chkFn Tryz.prog n_raft_Node_Out ⟨b_raft_Node_Out, [.tmp 2], 14⟩ = true := by kernel_rfl
abbrev n_raft_Node_Sure : Nat := 61
def b_raft_Node_Sure : Cd := (.seq (.reg [] [fi 2 (.mv (.c (.int .i64 0)))])
 (.seq (.seq (.reg [] [fi 3 (.mv (.t 0)),
  fi 4 (.eq false .ptr (.t 3) (.c (.ptr none)))])
 (.ite (.t 4)
 (.seq (.reg [] [fi 2 (.mv (.c (.int .i64 0)))])
 .ret)
 .skip))
 (.seq (.reg [] [fi 5 (.mv (.t 0)),
  fi 6 (.nilCheck (.t 5)),
  fi 7 (.fieldAddr 6 (.t 6)),
  fi 8 (.load false 1 (.t 7)),
  fi 2 (.mv (.t 8))])
 .ret)))
theorem k_raft_Node_Sure : chkFn Tryz.prog n_raft_Node_Sure ⟨b_raft_Node_Sure, [.tmp 2], 9⟩ = true := by kernel_rfl
abbrev n_raft_Node_Tick : Nat := 40
def k_raft_Node_Tick_0 : Cd := (.seq (.reg [] [fi 101 (.mv (.t 99)),
  fi 6 (.mv (.t 101))])
 (.seq (.reg [] [fi 102 (.mv (.t 6)),
  fi 103 (.mv (.t 0)),
  fi 104 (.nilCheck (.t 103)),
  fi 105 (.fieldAddr 1 (.t 104)),
  fi 106 (.load false 1 (.t 105)),
  fi 107 (.bin .neq (.t 102) (.t 106))])
 (.ite (.t 107)
 (.reg [0, 1, 2, 3, 4, 5, 6, 7, 8, 9, 10, 11, 12, 13, 14, 5, 15, 16] [fi 108 (.mv (.t 0)),
  fi 109 (.mv (.t 6)),
  fi 110 (.mv (.t 0)),
  fi 111 (.nilCheck (.t 110)),
  fi 112 (.fieldAddr 5 (.t 111)),
  fi 113 (.load false 1 (.t 112)),
  fi 114 (.len .sl (.t 113)),
  fi 115 (.conv (.int .u64) (.t 114)),
  fi 116 (.mv (.t 0)),
  fi 117 (.mv (.t 0)),
  fi 118 (.nilCheck (.t 117)),
  fi 119 (.fieldAddr 5 (.t 118)),
  fi 120 (.load false 1 (.t 119)),
  fi 121 (.len .sl (.t 120)),
  ei 122 (.call 78 [(.t 116), (.t 121)]),
  .chk 113 none (.load false 1 (.t 112)),
  fi 123 (.build [(.int .u8 0), (.int .u64 0), (.int .u64 0), (.int .u64 0), (.int .u64 0), (.bool false), (.sl [] 0 2 .nil)] [(0, 1, (.c (.int .u8 1))), (2, 1, (.t 115)), (3, 1, (.t 122))]),
  ei 124 (.call 77 [(.t 108), (.t 109), (.t 123)])])
 .skip)))
def l_raft_Node_Tick_0 : Cd := (.seq (.reg [] [fi 100 (.bin .lss (.t 99) (.t 98))])
 (.seq (.ite (.t 100)
 .skip
 (.exit 0))
 (.seq (.blk 1 k_raft_Node_Tick_0)
 (.reg [] [fi 125 (.bin .add (.t 99) (.c (.int .i64 1))),
  fi 99 (.mv (.t 125))]))))
def r_raft_Node_Tick_0 : Cd := (.seq (.reg [] [fi 78 (.mv (.t 0)),
  fi 79 (.mv (.t 0)),
  fi 80 (.nilCheck (.t 79)),
  fi 81 (.fieldAddr 2 (.t 80)),
  fi 82 (.load false 1 (.t 81)),
  ei 83 (.makeSlice 1 1 true [(.bool false)] (.t 82) (.t 82)),
  fi 84 (.nilCheck (.t 78)),
  fi 85 (.fieldAddr 9 (.t 84)),
  st (.store 1 (.t 85) (.t 83))])
 (.seq (.reg [0, 1, 2, 3, 4, 5, 6, 7, 8, 9] [fi 86 (.mv (.t 0)),
  fi 87 (.nilCheck (.t 86)),
  fi 88 (.fieldAddr 9 (.t 87)),
  fi 89 (.load false 1 (.t 88)),
  fi 90 (.mv (.t 0)),
  fi 91 (.nilCheck (.t 90)),
  fi 92 (.fieldAddr 1 (.t 91)),
  fi 93 (.load false 1 (.t 92)),
  fi 94 (.indexAddr 1 (.t 89) (.t 93)),
  st (.store 1 (.t 94) (.c (.bool true)))])
 (.seq (.seq (.reg [] [fi 95 (.mv (.t 0)),
  fi 96 (.nilCheck (.t 95)),
  fi 97 (.fieldAddr 2 (.t 96)),
  fi 98 (.load false 1 (.t 97)),
  fi 99 (.mv (.c (.int .i64 0)))])
 (.blk 0 (.loop l_raft_Node_Tick_0)))
 (.seq (.reg [] [fi 126 (.mv (.t 0)),
  ei 127 (.call 79 [(.t 126)]),
  fi 4 (.mv (.t 127))])
 .ret))))
def r_raft_Node_Tick_1 : Cd := (.seq (.reg [] [fi 48 (.mv (.t 0)),
  ei 49 (.call 74 [(.t 48)])])
 (.seq (.reg [] [fi 50 (.mv (.t 0)),
  fi 51 (.mv (.t 0)),
  fi 52 (.nilCheck (.t 50)),
  fi 53 (.fieldAddr 7 (.t 52)),
  st (.store 1 (.t 53) (.c (.int .u8 1))),
  fi 54 (.nilCheck (.t 51)),
  fi 55 (.fieldAddr 8 (.t 54)),
  st (.store 1 (.t 55) (.c (.int .i64 (-1))))])
 (.seq (.reg [] [fi 56 (.mv (.t 0)),
  fi 57 (.nilCheck (.t 56)),
  fi 58 (.fieldAddr 3 (.t 57)),
  fi 59 (.load false 1 (.t 58)),
  fi 60 (.bin .add (.t 59) (.c (.int .u64 1))),
  fi 61 (.nilCheck (.t 56)),
  fi 62 (.fieldAddr 3 (.t 61)),
  st (.store 1 (.t 62) (.t 60))])
 (.seq (.reg [] [fi 63 (.mv (.t 0)),
  fi 64 (.mv (.t 0)),
  fi 65 (.nilCheck (.t 64)),
  fi 66 (.fieldAddr 1 (.t 65)),
  fi 67 (.load false 1 (.t 66)),
  fi 68 (.nilCheck (.t 63)),
  fi 69 (.fieldAddr 4 (.t 68)),
  st (.store 1 (.t 69) (.t 67))])
 (.seq (.seq (.reg [] [fi 70 (.mv (.t 0)),
  fi 71 (.mv (.t 0)),
  ei 72 (.call 76 [(.t 71)]),
  ei 73 (.buildSlice 1 1 0 [(.sl [] 0 1 .nil)] [(0, 1, (.t 72))]),
  ei 74 (.call 75 [(.t 70), (.t 73)]),
  fi 5 (.mv (.t 74))])
 (.seq (.reg [] [fi 75 (.mv (.t 5)),
  fi 76 (.bin .neq (.t 75) (.c (.int .i64 0)))])
 (.ite (.t 76)
 (.seq (.reg [] [fi 77 (.mv (.t 5)),
  fi 4 (.mv (.t 77))])
 .ret)
 .skip)))
 r_raft_Node_Tick_0)))))
def r_raft_Node_Tick_2 : Cd := (.seq (.seq (.reg [0, 1, 2, 3, 4, 5, 6, 7, 8] [fi 39 (.mv (.t 0)),
  fi 40 (.nilCheck (.t 39)),
  fi 41 (.fieldAddr 12 (.t 40)),
  fi 42 (.load false 1 (.t 41)),
  fi 43 (.mv (.t 0)),
  fi 44 (.nilCheck (.t 43)),
  fi 45 (.fieldAddr 13 (.t 44)),
  fi 46 (.load false 1 (.t 45)),
  fi 47 (.bin .lss (.t 42) (.t 46))])
 (.ite (.t 47)
 (.seq (.reg [] [fi 4 (.mv (.c (.int .i64 0)))])
 .ret)
 .skip))
 r_raft_Node_Tick_1)
def r_raft_Node_Tick_3 : Cd := (.seq (.reg [] [fi 13 (.mv (.t 0)),
  fi 14 (.mv (.t 1)),
  fi 15 (.nilCheck (.t 13)),
  fi 16 (.fieldAddr 14 (.t 15)),
  st (.store 1 (.t 16) (.t 14))])
 (.seq (.reg [] [fi 17 (.mv (.t 0)),
  fi 18 (.nilCheck (.t 17)),
  fi 19 (.fieldAddr 12 (.t 18)),
  fi 20 (.load false 1 (.t 19)),
  fi 21 (.bin .add (.t 20) (.c (.int .i64 1))),
  fi 22 (.nilCheck (.t 17)),
  fi 23 (.fieldAddr 12 (.t 22)),
  st (.store 1 (.t 23) (.t 21))])
 (.seq (.seq (.reg [] [fi 24 (.mv (.t 0)),
  fi 25 (.nilCheck (.t 24)),
  fi 26 (.fieldAddr 7 (.t 25)),
  fi 27 (.load false 1 (.t 26)),
  fi 28 (.bin .eql (.t 27) (.c (.int .u8 2)))])
 (.ite (.t 28)
 (.seq (.seq (.reg [] [fi 29 (.mv (.t 0)),
  fi 30 (.nilCheck (.t 29)),
  fi 31 (.fieldAddr 12 (.t 30)),
  fi 32 (.load false 1 (.t 31)),
  fi 33 (.bin .geq (.t 32) (.c (.int .i64 2)))])
 (.ite (.t 33)
 (.seq (.reg [] [fi 34 (.mv (.t 0)),
  fi 35 (.nilCheck (.t 34)),
  fi 36 (.fieldAddr 12 (.t 35)),
  st (.store 1 (.t 36) (.c (.int .i64 0)))])
 (.reg [] [fi 37 (.mv (.t 0)),
  ei 38 (.call 73 [(.t 37)])]))
 .skip))
 (.seq (.reg [] [fi 4 (.mv (.c (.int .i64 0)))])
 .ret))
 .skip))
 r_raft_Node_Tick_2)))
def r_raft_Node_Tick_4 : Cd := (.seq (.seq (.reg [] [fi 9 (.mv (.t 0)),
  fi 10 (.nilCheck (.t 9)),
  fi 11 (.fieldAddr 16 (.t 10)),
  fi 12 (.load false 1 (.t 11))])
 (.ite (.t 12)
 (.seq (.reg [] [fi 4 (.mv (.c (.int .i64 12)))])
 .ret)
 .skip))
 r_raft_Node_Tick_3)
def b_raft_Node_Tick : Cd := (.seq (.reg [] [fi 4 (.mv (.c (.int .i64 0)))])
 (.seq (.seq (.reg [] [fi 7 (.mv (.t 0)),
  fi 8 (.eq false .ptr (.t 7) (.c (.ptr none)))])
 (.ite (.t 8)
 (.seq (.reg [] [fi 4 (.mv (.c (.int .i64 8)))])
 .ret)
 .skip))
 r_raft_Node_Tick_4))
theorem k_raft_Node_Tick : chkFn Tryz.prog n_raft_Node_Tick ⟨b_raft_Node_Tick, [.tmp 4], 128⟩ = true := by kernel_rfl
abbrev n_raft_Node_add : Nat := 127
def b_raft_Node_add : Cd := (.seq (.reg [] [fi 4 (.mv (.c (.int .i64 0)))])
 (.seq (.reg [0, 1, 2, 3, 4, 5, 6, 7, 8, 9, 10, 4, 8, 11, 12, 4, 13, 14, 15, 16] [fi 6 (.mv (.t 0)),
  fi 7 (.mv (.t 0)),
  fi 8 (.nilCheck (.t 7)),
  fi 9 (.fieldAddr 5 (.t 8)),
  fi 10 (.load false 1 (.t 9)),
  fi 11 (.mv (.t 0)),
  fi 12 (.nilCheck (.t 11)),
  fi 13 (.fieldAddr 3 (.t 12)),
  fi 14 (.load false 1 (.t 13)),
  fi 15 (.mv (.t 1)),
  ei 16 (.call 95 [(.t 15)]),
  .chk 10 none (.load false 1 (.t 9)),
  .chk 14 none (.load false 1 (.t 13)),
  fi 17 (.build [(.int .u64 0), (.sl [] 0 1 .nil)] [(0, 1, (.t 14)), (1, 1, (.t 16))]),
  ei 18 (.buildSlice 1 2 0 [(.int .u64 0), (.sl [] 0 1 .nil)] [(0, 2, (.t 17))]),
  .chk 10 none (.load false 1 (.t 9)),
  ei 19 (.append 2 32 false (.t 10) (.t 18)),
  fi 20 (.nilCheck (.t 6)),
  fi 21 (.fieldAddr 5 (.t 20)),
  st (.store 1 (.t 21) (.t 19))])
 (.seq (.seq (.reg [] [fi 22 (.mv (.t 0)),
  fi 23 (.mv (.t 0)),
  fi 24 (.mv (.t 0)),
  fi 25 (.nilCheck (.t 24)),
  fi 26 (.fieldAddr 5 (.t 25)),
  fi 27 (.load false 1 (.t 26)),
  fi 28 (.len .sl (.t 27)),
  ei 29 (.call 203 [(.t 23), (.t 28)]),
  ei 30 (.buildSlice 1 1 0 [(.sl [] 0 1 .nil)] [(0, 1, (.t 29))]),
  ei 31 (.call 75 [(.t 22), (.t 30)]),
  fi 5 (.mv (.t 31))])
 (.seq (.reg [] [fi 32 (.mv (.t 5)),
  fi 33 (.bin .neq (.t 32) (.c (.int .i64 0)))])
 (.ite (.t 33)
 (.seq (.reg [] [fi 34 (.mv (.t 5)),
  fi 4 (.mv (.t 34))])
 .ret)
 .skip)))
 (.seq (.reg [] [fi 35 (.mv (.t 0)),
  ei 36 (.call 204 [(.t 35)])])
 (.seq (.reg [] [fi 37 (.mv (.t 0)),
  ei 38 (.call 73 [(.t 37)])])
 (.seq (.reg [] [fi 4 (.mv (.c (.int .i64 0)))])
 .ret))))))
theorem k_raft_Node_add : chkFn Tryz.prog n_raft_Node_add ⟨b_raft_Node_add, [.tmp 4], 39⟩ = true := by kernel_rfl
abbrev n_raft_Node_advance : Nat := 204
def l_raft_Node_advance_0 : Cd := (.seq (.reg [] [fi 35 (.bin .lss (.t 34) (.t 33))])
 (.seq (.ite (.t 35)
 .skip
 (.exit 2))
 (.seq (.blk 3 (.seq (.reg [] [fi 36 (.mv (.t 34)),
  fi 37 (.indexAddr 1 (.t 32) (.t 34)),
  fi 38 (.load false 1 (.t 37)),
  fi 4 (.mv (.t 36)),
  fi 5 (.mv (.t 38))])
 (.seq (.reg [] [fi 39 (.mv (.t 4)),
  fi 40 (.mv (.t 0)),
  fi 41 (.nilCheck (.t 40)),
  fi 42 (.fieldAddr 1 (.t 41)),
  fi 43 (.load false 1 (.t 42)),
  fi 44 (.bin .neq (.t 39) (.t 43)),
  fi 45 (.mv (.t 44)),
  .run ⟨(some 46), (some (45, true)), .f (.mv (.t 5))⟩,
  .run ⟨(some 47), (some (45, true)), .f (.mv (.t 2))⟩,
  .run ⟨(some 48), (some (45, true)), .f (.bin .geq (.t 46) (.t 47))⟩,
  fi 49 (.pick (.t 45) (.t 48) (.c (.bool false)))])
 (.ite (.t 49)
 (.reg [] [fi 50 (.mv (.t 3)),
  fi 51 (.bin .add (.t 50) (.c (.int .i64 1))),
  fi 3 (.mv (.t 51))])
 .skip))))
 (.reg [] [fi 52 (.bin .add (.t 34) (.c (.int .i64 1))),
  fi 34 (.mv (.t 52))]))))
def s_raft_Node_advance_0 : Cd := (.seq (.reg [] [fi 53 (.mv (.t 3)),
  fi 54 (.bin .mul (.c (.int .i64 2)) (.t 53)),
  fi 55 (.mv (.t 0)),
  fi 56 (.nilCheck (.t 55)),
  fi 57 (.fieldAddr 2 (.t 56)),
  fi 58 (.load false 1 (.t 57)),
  fi 59 (.bin .gtr (.t 54) (.t 58))])
 (.ite (.t 59)
 (.seq (.reg [] [fi 60 (.mv (.t 0)),
  fi 61 (.mv (.t 2)),
  fi 62 (.nilCheck (.t 60)),
  fi 63 (.fieldAddr 6 (.t 62)),
  st (.store 1 (.t 63) (.t 61))])
 .ret)
 .skip))
def l_raft_Node_advance_1 : Cd := (.seq (.seq (.reg [0, 1, 2, 3, 4, 5, 6, 7, 8, 10, 11, 12, 13, 9, 13, 14, 15] [fi 11 (.mv (.t 2)),
  fi 12 (.mv (.t 0)),
  fi 13 (.nilCheck (.t 12)),
  fi 14 (.fieldAddr 6 (.t 13)),
  fi 15 (.load false 1 (.t 14)),
  fi 16 (.bin .gtr (.t 11) (.t 15)),
  fi 17 (.mv (.t 16)),
  .run ⟨(some 18), (some (17, true)), .f (.mv (.t 0))⟩,
  .run ⟨(some 19), (some (17, true)), .f (.mv (.t 2))⟩,
  .run ⟨(some 21), (some (17, true)), .f (.mv (.t 0))⟩,
  .run ⟨(some 22), (some (17, true)), .f (.nilCheck (.t 21))⟩,
  .run ⟨(some 23), (some (17, true)), .f (.fieldAddr 3 (.t 22))⟩,
  .run ⟨(some 24), (some (17, true)), .f (.load false 1 (.t 23))⟩,
  .run ⟨(some 20), (some (17, true)), .e (.call 78 [(.t 18), (.t 19)])⟩,
  .chk 24 (some (17, true)) (.load false 1 (.t 23)),
  .run ⟨(some 25), (some (17, true)), .f (.bin .eql (.t 20) (.t 24))⟩,
  fi 26 (.pick (.t 17) (.t 25) (.c (.bool false)))])
 (.ite (.t 26)
 .skip
 (.exit 0)))
 (.seq (.blk 1 (.seq (.reg [] [fi 3 (.mv (.c (.int .i64 1)))])
 (.seq (.seq (.reg [] [fi 29 (.mv (.t 0)),
  fi 30 (.nilCheck (.t 29)),
  fi 31 (.fieldAddr 11 (.t 30)),
  fi 32 (.load false 1 (.t 31)),
  fi 33 (.len .sl (.t 32)),
  fi 34 (.mv (.c (.int .i64 0)))])
 (.blk 2 (.loop l_raft_Node_advance_0)))
 s_raft_Node_advance_0)))
 (.reg [] [fi 27 (.mv (.t 2)),
  fi 28 (.bin .sub (.t 27) (.c (.int .i64 1))),
  fi 2 (.mv (.t 28))])))
def b_raft_Node_advance : Cd := (.seq (.reg [] [fi 6 (.mv (.t 0)),
  fi 7 (.nilCheck (.t 6)),
  fi 8 (.fieldAddr 5 (.t 7)),
  fi 9 (.load false 1 (.t 8)),
  fi 10 (.len .sl (.t 9)),
  fi 2 (.mv (.t 10))])
 (.blk 0 (.loop l_raft_Node_advance_1)))
theorem k_raft_Node_advance : chkFn Tryz.prog n_raft_Node_advance ⟨b_raft_Node_advance, [], 64⟩ = true := by kernel_rfl
abbrev n_raft_Node_count : Nat := 79
def l_raft_Node_count_0 : Cd := (.seq (.reg [] [fi 13 (.bin .lss (.t 12) (.t 11))])
 (.seq (.ite (.t 13)
 .skip
 (.exit 0))
 (.seq (.blk 1 (.seq (.reg [] [fi 14 (.indexAddr 1 (.t 10) (.t 12)),
  fi 15 (.load false 1 (.t 14)),
  fi 5 (.mv (.t 15))])
 (.seq (.reg [] [fi 16 (.mv (.t 5))])
 (.ite (.t 16)
 (.reg [] [fi 17 (.mv (.t 3)),
  fi 18 (.bin .add (.t 17) (.c (.int .i64 1))),
  fi 3 (.mv (.t 18))])
 .skip))))
 (.reg [] [fi 19 (.bin .add (.t 12) (.c (.int .i64 1))),
  fi 12 (.mv (.t 19))]))))
def l_raft_Node_count_1 : Cd := (.seq (.reg [] [fi 69 (.bin .lss (.t 68) (.t 67))])
 (.seq (.ite (.t 69)
 .skip
 (.exit 2))
 (.seq (.blk 3 (.seq (.reg [] [fi 70 (.mv (.t 68)),
  fi 6 (.mv (.t 70))])
 (.reg [0, 1, 2, 3, 4, 5, 6, 7, 8, 9, 10, 11, 12] [fi 71 (.mv (.t 0)),
  fi 72 (.nilCheck (.t 71)),
  fi 73 (.fieldAddr 10 (.t 72)),
  fi 74 (.load false 1 (.t 73)),
  fi 75 (.mv (.t 6)),
  fi 76 (.mv (.t 0)),
  fi 77 (.nilCheck (.t 76)),
  fi 78 (.fieldAddr 5 (.t 77)),
  fi 79 (.load false 1 (.t 78)),
  fi 80 (.len .sl (.t 79)),
  fi 81 (.bin .add (.t 80) (.c (.int .i64 1))),
  fi 82 (.indexAddr 1 (.t 74) (.t 75)),
  st (.store 1 (.t 82) (.t 81))])))
 (.reg [] [fi 83 (.bin .add (.t 68) (.c (.int .i64 1))),
  fi 68 (.mv (.t 83))]))))
def r_raft_Node_count_0 : Cd := (.seq (.seq (.reg [] [fi 63 (.mv (.t 0)),
  fi 64 (.nilCheck (.t 63)),
  fi 65 (.fieldAddr 10 (.t 64)),
  fi 66 (.load false 1 (.t 65)),
  fi 67 (.len .sl (.t 66)),
  fi 68 (.mv (.c (.int .i64 0)))])
 (.blk 2 (.loop l_raft_Node_count_1)))
 (.seq (.reg [] [fi 84 (.mv (.t 0)),
  ei 85 (.call 127 [(.t 84), (.c (.sl [] 0 1 .nil))]),
  fi 2 (.mv (.t 85))])
 .ret))
def s_raft_Node_count_0 : Cd := (.seq (.seq (.reg [] [fi 20 (.mv (.t 0)),
  fi 21 (.nilCheck (.t 20)),
  fi 22 (.fieldAddr 7 (.t 21)),
  fi 23 (.load false 1 (.t 22)),
  fi 24 (.bin .neq (.t 23) (.c (.int .u8 1))),
  fi 25 (.mv (.t 24)),
  .run ⟨(some 26), (some (25, false)), .f (.mv (.t 3))⟩,
  .run ⟨(some 27), (some (25, false)), .f (.bin .mul (.c (.int .i64 2)) (.t 26))⟩,
  .run ⟨(some 28), (some (25, false)), .f (.mv (.t 0))⟩,
  .run ⟨(some 29), (some (25, false)), .f (.nilCheck (.t 28))⟩,
  .run ⟨(some 30), (some (25, false)), .f (.fieldAddr 2 (.t 29))⟩,
  .run ⟨(some 31), (some (25, false)), .f (.load false 1 (.t 30))⟩,
  .run ⟨(some 32), (some (25, false)), .f (.bin .leq (.t 27) (.t 31))⟩,
  fi 33 (.pick (.t 25) (.c (.bool true)) (.t 32))])
 (.ite (.t 33)
 (.seq (.reg [] [fi 2 (.mv (.c (.int .i64 0)))])
 .ret)
 .skip))
 (.seq (.reg [] [fi 34 (.mv (.t 0)),
  fi 35 (.mv (.t 0)),
  fi 36 (.mv (.t 0)),
  fi 37 (.mv (.t 0)),
  fi 38 (.nilCheck (.t 37)),
  fi 39 (.fieldAddr 1 (.t 38)),
  fi 40 (.load false 1 (.t 39)),
  fi 41 (.nilCheck (.t 34)),
  fi 42 (.fieldAddr 7 (.t 41)),
  st (.store 1 (.t 42) (.c (.int .u8 2))),
  fi 43 (.nilCheck (.t 35)),
  fi 44 (.fieldAddr 8 (.t 43)),
  st (.store 1 (.t 44) (.t 40)),
  fi 45 (.nilCheck (.t 36)),
  fi 46 (.fieldAddr 12 (.t 45)),
  st (.store 1 (.t 46) (.c (.int .i64 0)))])
 (.seq (.alt 6 11
 (.alt 11 14
 (.reg [0, 1, 2, 3, 4, 5, 7, 8, 9, 10, 6, 10, 12, 13, 11, 14, 15, 16, 17] [fi 47 (.mv (.t 0)),
  fi 48 (.mv (.t 0)),
  fi 49 (.mv (.t 0)),
  fi 50 (.nilCheck (.t 49)),
  fi 51 (.fieldAddr 2 (.t 50)),
  fi 52 (.load false 1 (.t 51)),
  fi 54 (.mv (.t 0)),
  fi 55 (.nilCheck (.t 54)),
  fi 56 (.fieldAddr 2 (.t 55)),
  fi 57 (.load false 1 (.t 56)),
  ei 53 (.makeSlice 1 8 true [(.int .i64 0)] (.t 52) (.t 52)),
  .chk 57 none (.load false 1 (.t 56)),
  fi 59 (.nilCheck (.t 47)),
  fi 60 (.fieldAddr 10 (.t 59)),
  ei 58 (.makeSlice 1 8 true [(.int .i64 0)] (.t 57) (.t 57)),
  st (.store 1 (.t 60) (.t 53)),
  fi 61 (.nilCheck (.t 48)),
  fi 62 (.fieldAddr 11 (.t 61)),
  st (.store 1 (.t 62) (.t 58))])
 (.reg [0, 1, 2, 3, 4, 5, 7, 8, 9, 10, 6, 10, 12, 13, 14, 11, 15, 16, 17] [fi 47 (.mv (.t 0)),
  fi 48 (.mv (.t 0)),
  fi 49 (.mv (.t 0)),
  fi 50 (.nilCheck (.t 49)),
  fi 51 (.fieldAddr 2 (.t 50)),
  fi 52 (.load false 1 (.t 51)),
  fi 54 (.mv (.t 0)),
  fi 55 (.nilCheck (.t 54)),
  fi 56 (.fieldAddr 2 (.t 55)),
  fi 57 (.load false 1 (.t 56)),
  ei 53 (.makeSlice 1 8 true [(.int .i64 0)] (.t 52) (.t 52)),
  .chk 57 none (.load false 1 (.t 56)),
  fi 59 (.nilCheck (.t 47)),
  fi 60 (.fieldAddr 10 (.t 59)),
  st (.store 1 (.t 60) (.t 53)),
  ei 58 (.makeSlice 1 8 true [(.int .i64 0)] (.t 57) (.t 57)),
  fi 61 (.nilCheck (.t 48)),
  fi 62 (.fieldAddr 11 (.t 61)),
  st (.store 1 (.t 62) (.t 58))]))
 (.reg [0, 1, 2, 3, 4, 5, 7, 8, 9, 10, 11, 5, 6, 12, 13, 14, 15, 16, 17] [fi 47 (.mv (.t 0)),
  fi 48 (.mv (.t 0)),
  fi 49 (.mv (.t 0)),
  fi 50 (.nilCheck (.t 49)),
  fi 51 (.fieldAddr 2 (.t 50)),
  fi 52 (.load false 1 (.t 51)),
  fi 54 (.mv (.t 0)),
  fi 55 (.nilCheck (.t 54)),
  fi 56 (.fieldAddr 2 (.t 55)),
  fi 57 (.load false 1 (.t 56)),
  ei 58 (.makeSlice 1 8 true [(.int .i64 0)] (.t 57) (.t 57)),
  .chk 52 none (.load false 1 (.t 51)),
  ei 53 (.makeSlice 1 8 true [(.int .i64 0)] (.t 52) (.t 52)),
  fi 59 (.nilCheck (.t 47)),
  fi 60 (.fieldAddr 10 (.t 59)),
  st (.store 1 (.t 60) (.t 53)),
  fi 61 (.nilCheck (.t 48)),
  fi 62 (.fieldAddr 11 (.t 61)),
  st (.store 1 (.t 62) (.t 58))]))
 r_raft_Node_count_0)))
def b_raft_Node_count : Cd := (.seq (.reg [] [fi 2 (.mv (.c (.int .i64 0)))])
 (.seq (.reg [] [fi 3 (.mv (.c (.int .i64 0)))])
 (.seq (.seq (.reg [] [fi 7 (.mv (.t 0)),
  fi 8 (.nilCheck (.t 7)),
  fi 9 (.fieldAddr 9 (.t 8)),
  fi 10 (.load false 1 (.t 9)),
  fi 11 (.len .sl (.t 10)),
  fi 12 (.mv (.c (.int .i64 0)))])
 (.blk 0 (.loop l_raft_Node_count_0)))
 s_raft_Node_count_0)))
theorem k_raft_Node_count : chkFn Tryz.prog n_raft_Node_count ⟨b_raft_Node_count, [.tmp 2], 86⟩ = true := by kernel_rfl
abbrev n_raft_Node_hard : Nat := 76
def b_raft_Node_hard : Cd := (.seq (.reg [] [fi 2 (.mv (.c (.sl [] 0 1 .nil)))])
 (.seq (.reg [] [ei 4 (.buildSlice 1 1 0 [(.int .u8 0)] [(0, 1, (.c (.int .u8 72)))]),
  fi 5 (.mv (.t 0)),
  fi 6 (.nilCheck (.t 5)),
  fi 7 (.fieldAddr 3 (.t 6)),
  fi 8 (.load false 1 (.t 7)),
  ei 9 (.call 125 [(.t 8)]),
  ei 10 (.append 1 1 false (.t 4) (.t 9)),
  fi 3 (.mv (.t 10))])
 (.seq (.reg [] [fi 11 (.mv (.t 3)),
  fi 12 (.mv (.t 0)),
  fi 13 (.nilCheck (.t 12)),
  fi 14 (.fieldAddr 4 (.t 13)),
  fi 15 (.load false 1 (.t 14)),
  fi 16 (.bin .add (.t 15) (.c (.int .i64 1))),
  fi 17 (.conv (.int .u64) (.t 16)),
  ei 18 (.call 125 [(.t 17)]),
  ei 19 (.append 1 1 false (.t 11) (.t 18)),
  fi 2 (.mv (.t 19))])
 .ret)))
theorem k_raft_Node_hard : chkFn Tryz.prog n_raft_Node_hard ⟨b_raft_Node_hard, [.tmp 2], 20⟩ = true := by kernel_rfl
abbrev n_raft_Node_keep : Nat := 75
def l_raft_Node_keep_0 : Cd := (.seq (.reg [] [fi 12 (.bin .lss (.t 11) (.t 10))])
 (.seq (.ite (.t 12)
 .skip
 (.exit 0))
 (.seq (.blk 1 (.seq (.reg [] [fi 13 (.indexAddr 1 (.t 9) (.t 11)),
  fi 14 (.load false 1 (.t 13)),
  fi 6 (.mv (.t 14))])
 (.seq (.reg [] [fi 15 (.mv (.t 0)),
  fi 16 (.nilCheck (.t 15)),
  fi 17 (.fieldAddr 0 (.t 16)),
  fi 18 (.load false 1 (.t 17)),
  fi 19 (.mv (.t 6)),
  ei 20 (.call 122 [(.t 18), (.t 19)]),
  fi 7 (.mv (.t 20))])
 (.seq (.reg [] [fi 21 (.mv (.t 7)),
  fi 22 (.bin .neq (.t 21) (.c (.int .i64 0)))])
 (.ite (.t 22)
 (.seq (.reg [] [fi 23 (.mv (.t 0)),
  fi 24 (.mv (.t 7)),
  ei 25 (.call 123 [(.t 23), (.t 24)]),
  fi 4 (.mv (.t 25))])
 .ret)
 .skip)))))
 (.reg [] [fi 26 (.bin .add (.t 11) (.c (.int .i64 1))),
  fi 11 (.mv (.t 26))]))))
def s_raft_Node_keep_0 : Cd := (.seq (.seq (.reg [] [fi 27 (.mv (.t 0)),
  fi 28 (.nilCheck (.t 27)),
  fi 29 (.fieldAddr 0 (.t 28)),
  fi 30 (.load false 1 (.t 29)),
  ei 31 (.call 124 [(.t 30)]),
  fi 8 (.mv (.t 31))])
 (.seq (.reg [] [fi 32 (.mv (.t 8)),
  fi 33 (.bin .neq (.t 32) (.c (.int .i64 0)))])
 (.ite (.t 33)
 (.seq (.reg [] [fi 34 (.mv (.t 0)),
  fi 35 (.mv (.t 8)),
  ei 36 (.call 123 [(.t 34), (.t 35)]),
  fi 4 (.mv (.t 36))])
 .ret)
 .skip)))
 (.seq (.reg [] [fi 4 (.mv (.c (.int .i64 0)))])
 .ret))
def b_raft_Node_keep : Cd := (.seq (.reg [] [fi 4 (.mv (.c (.int .i64 0)))])
 (.seq (.seq (.reg [] [fi 9 (.mv (.t 1)),
  fi 10 (.len .sl (.t 9)),
  fi 11 (.mv (.c (.int .i64 0)))])
 (.blk 0 (.loop l_raft_Node_keep_0)))
 s_raft_Node_keep_0))
theorem k_raft_Node_keep : chkFn Tryz.prog n_raft_Node_keep ⟨b_raft_Node_keep, [.tmp 4], 37⟩ = true := by kernel_rfl
abbrev n_raft_Node_last : Nat := 78
def b_raft_Node_last : Cd := (.seq (.reg [] [fi 4 (.mv (.c (.int .u64 0)))])
 (.seq (.seq (.reg [] [fi 5 (.mv (.t 1)),
  fi 6 (.bin .lss (.t 5) (.c (.int .i64 1))),
  fi 7 (.mv (.t 6)),
  .run ⟨(some 8), (some (7, false)), .f (.mv (.t 1))⟩,
  .run ⟨(some 9), (some (7, false)), .f (.mv (.t 0))⟩,
  .run ⟨(some 10), (some (7, false)), .f (.nilCheck (.t 9))⟩,
  .run ⟨(some 11), (some (7, false)), .f (.fieldAddr 5 (.t 10))⟩,
  .run ⟨(some 12), (some (7, false)), .f (.load false 1 (.t 11))⟩,
  .run ⟨(some 13), (some (7, false)), .f (.len .sl (.t 12))⟩,
  .run ⟨(some 14), (some (7, false)), .f (.bin .gtr (.t 8) (.t 13))⟩,
  fi 15 (.pick (.t 7) (.c (.bool true)) (.t 14))])
 (.ite (.t 15)
 (.seq (.reg [] [fi 4 (.mv (.c (.int .u64 0)))])
 .ret)
 .skip))
 (.seq (.reg [] [fi 16 (.mv (.t 0)),
  fi 17 (.nilCheck (.t 16)),
  fi 18 (.fieldAddr 5 (.t 17)),
  fi 19 (.load false 1 (.t 18)),
  fi 20 (.mv (.t 1)),
  fi 21 (.bin .sub (.t 20) (.c (.int .i64 1))),
  fi 22 (.indexAddr 2 (.t 19) (.t 21)),
  fi 23 (.fieldAddr 0 (.t 22)),
  fi 24 (.load false 1 (.t 23)),
  fi 4 (.mv (.t 24))])
 .ret)))
theorem k_raft_Node_last : chkFn Tryz.prog n_raft_Node_last ⟨b_raft_Node_last, [.tmp 4], 25⟩ = true := by kernel_rfl
abbrev n_raft_Node_record : Nat := 203
def b_raft_Node_record : Cd := (.seq (.reg [] [fi 4 (.mv (.c (.sl [] 0 1 .nil)))])
 (.seq (.reg [] [ei 6 (.buildSlice 1 1 0 [(.int .u8 0)] [(0, 1, (.c (.int .u8 69)))]),
  fi 7 (.mv (.t 1)),
  fi 8 (.conv (.int .u64) (.t 7)),
  ei 9 (.call 125 [(.t 8)]),
  ei 10 (.append 1 1 false (.t 6) (.t 9)),
  fi 5 (.mv (.t 10))])
 (.seq (.reg [] [fi 11 (.mv (.t 5)),
  fi 12 (.mv (.t 0)),
  fi 13 (.nilCheck (.t 12)),
  fi 14 (.fieldAddr 5 (.t 13)),
  fi 15 (.load false 1 (.t 14)),
  fi 16 (.mv (.t 1)),
  fi 17 (.bin .sub (.t 16) (.c (.int .i64 1))),
  fi 18 (.indexAddr 2 (.t 15) (.t 17)),
  fi 19 (.fieldAddr 0 (.t 18)),
  fi 20 (.load false 1 (.t 19)),
  ei 21 (.call 125 [(.t 20)]),
  ei 22 (.append 1 1 false (.t 11) (.t 21)),
  fi 5 (.mv (.t 22))])
 (.seq (.reg [] [fi 23 (.mv (.t 5)),
  fi 24 (.mv (.t 0)),
  fi 25 (.nilCheck (.t 24)),
  fi 26 (.fieldAddr 5 (.t 25)),
  fi 27 (.load false 1 (.t 26)),
  fi 28 (.mv (.t 1)),
  fi 29 (.bin .sub (.t 28) (.c (.int .i64 1))),
  fi 30 (.indexAddr 2 (.t 27) (.t 29)),
  fi 31 (.fieldAddr 1 (.t 30)),
  fi 32 (.load false 1 (.t 31)),
  ei 33 (.append 1 1 false (.t 23) (.t 32)),
  fi 4 (.mv (.t 33))])
 .ret))))
theorem k_raft_Node_record : chkFn Tryz.prog n_raft_Node_record ⟨b_raft_Node_record, [.tmp 4], 34⟩ = true := by kernel_rfl
abbrev n_raft_Node_rest : Nat := 74
def b_raft_Node_rest : Cd := (.reg [] [fi 2 (.mv (.t 0)),
  fi 3 (.mv (.t 0)),
  fi 4 (.mv (.t 0)),
  fi 5 (.nilCheck (.t 4)),
  fi 6 (.fieldAddr 14 (.t 5)),
  fi 7 (.load false 1 (.t 6)),
  fi 8 (.bin .rem (.t 7) (.c (.int .u64 10))),
  fi 9 (.conv (.int .i64) (.t 8)),
  fi 10 (.bin .add (.c (.int .i64 10)) (.t 9)),
  fi 11 (.nilCheck (.t 2)),
  fi 12 (.fieldAddr 12 (.t 11)),
  st (.store 1 (.t 12) (.c (.int .i64 0))),
  fi 13 (.nilCheck (.t 3)),
  fi 14 (.fieldAddr 13 (.t 13)),
  st (.store 1 (.t 14) (.t 10))])
theorem k_raft_Node_rest : chkFn Tryz.prog n_raft_Node_rest ⟨b_raft_Node_rest, [], 15⟩ = true := by kernel_rfl
abbrev n_raft_Node_send : Nat := 77
def b_raft_Node_send : Cd := (.seq (.reg [] [ei 5 (.box (.t 2))])
 (.seq (.reg [] [fi 6 (.mv (.t 0)),
  fi 7 (.nilCheck (.t 6)),
  fi 8 (.fieldAddr 3 (.t 7)),
  fi 9 (.load false 1 (.t 8)),
  fi 10 (.fieldAddr 1 (.t 5)),
  st (.store 1 (.t 10) (.t 9))])
 (.reg [0, 1, 2, 3, 4, 5, 6, 7, 8, 9, 10, 11, 4, 8, 12, 13, 4, 14, 15, 16, 17] [fi 11 (.mv (.t 0)),
  fi 12 (.mv (.t 0)),
  fi 13 (.nilCheck (.t 12)),
  fi 14 (.fieldAddr 15 (.t 13)),
  fi 15 (.load false 1 (.t 14)),
  fi 16 (.mv (.t 0)),
  fi 17 (.nilCheck (.t 16)),
  fi 18 (.fieldAddr 1 (.t 17)),
  fi 19 (.load false 1 (.t 18)),
  fi 20 (.mv (.t 1)),
  fi 21 (.load true 7 (.t 5)),
  ei 22 (.call 126 [(.t 21)]),
  .chk 15 none (.load false 1 (.t 14)),
  .chk 19 none (.load false 1 (.t 18)),
  fi 23 (.build [(.int .i64 0), (.int .i64 0), (.sl [] 0 1 .nil)] [(0, 1, (.t 19)), (1, 1, (.t 20)), (2, 1, (.t 22))]),
  ei 24 (.buildSlice 1 3 0 [(.int .i64 0), (.int .i64 0), (.sl [] 0 1 .nil)] [(0, 3, (.t 23))]),
  .chk 15 none (.load false 1 (.t 14)),
  ei 25 (.append 3 40 false (.t 15) (.t 24)),
  fi 26 (.nilCheck (.t 11)),
  fi 27 (.fieldAddr 15 (.t 26)),
  st (.store 1 (.t 27) (.t 25))])))
theorem k_raft_Node_send : chkFn Tryz.prog n_raft_Node_send ⟨b_raft_Node_send, [], 28⟩ = true := by kernel_rfl
abbrev n_raft_Node_tell : Nat := 73
def l_raft_Node_tell_0 : Cd := (.seq (.reg [] [fi 8 (.bin .lss (.t 7) (.t 6))])
 (.seq (.ite (.t 8)
 .skip
 (.exit 0))
 (.seq (.blk 1 (.seq (.reg [] [fi 9 (.mv (.t 7)),
  fi 2 (.mv (.t 9))])
 (.seq (.reg [] [fi 10 (.mv (.t 2)),
  fi 11 (.mv (.t 0)),
  fi 12 (.nilCheck (.t 11)),
  fi 13 (.fieldAddr 1 (.t 12)),
  fi 14 (.load false 1 (.t 13)),
  fi 15 (.bin .neq (.t 10) (.t 14))])
 (.ite (.t 15)
 (.reg [] [fi 16 (.mv (.t 0)),
  fi 17 (.mv (.t 2)),
  ei 18 (.call 121 [(.t 16), (.t 17)])])
 .skip))))
 (.reg [] [fi 19 (.bin .add (.t 7) (.c (.int .i64 1))),
  fi 7 (.mv (.t 19))]))))
def b_raft_Node_tell : Cd := (.seq (.reg [] [fi 3 (.mv (.t 0)),
  fi 4 (.nilCheck (.t 3)),
  fi 5 (.fieldAddr 2 (.t 4)),
  fi 6 (.load false 1 (.t 5)),
  fi 7 (.mv (.c (.int .i64 0)))])
 (.blk 0 (.loop l_raft_Node_tell_0)))
theorem k_raft_Node_tell : chkFn Tryz.prog n_raft_Node_tell ⟨b_raft_Node_tell, [], 20⟩ = true := by kernel_rfl
abbrev n_raft_Open : Nat := 25
def l_raft_Open_0 : Cd := (.seq (.reg [] [fi 45 (.bin .lss (.t 44) (.t 43))])
 (.seq (.ite (.t 45)
 .skip
 (.exit 0))
 (.seq (.blk 1 (.seq (.reg [] [fi 46 (.mv (.t 44)),
  fi 11 (.mv (.t 46))])
 (.seq (.reg [] [fi 48 (.mv (.t 8)),
  fi 49 (.mv (.t 11)),
  ei 50 (.call 47 [(.t 48), (.t 49)]),
  fi 47 (.mv (.t 50)),
  fi 51 (.extract (.t 47) 0),
  fi 52 (.extract (.t 47) 1),
  fi 12 (.mv (.t 51)),
  fi 13 (.mv (.t 52))])
 (.seq (.reg [] [fi 53 (.mv (.t 10)),
  fi 54 (.mv (.t 12)),
  ei 55 (.call 48 [(.t 53), (.t 54)]),
  fi 56 (.un .not (.t 55))])
 (.ite (.t 56)
 (.seq (.reg [] [fi 6 (.mv (.c (.ptr none))),
  fi 7 (.mv (.c (.int .i64 3)))])
 .ret)
 .skip)))))
 (.reg [] [fi 57 (.bin .add (.t 44) (.c (.int .i64 1))),
  fi 44 (.mv (.t 57))]))))
def b_raft_Open : Cd := (.seq (.reg [] [fi 6 (.mv (.c (.ptr none))),
  fi 7 (.mv (.c (.int .i64 0)))])
 (.seq (.seq (.reg [] [fi 14 (.mv (.t 2)),
  fi 15 (.bin .lss (.t 14) (.c (.int .i64 1))),
  fi 16 (.mv (.t 15)),
  .run ⟨(some 17), (some (16, false)), .f (.mv (.t 2))⟩,
  .run ⟨(some 18), (some (16, false)), .f (.bin .gtr (.t 17) (.c (.int .i64 5)))⟩,
  fi 19 (.pick (.t 16) (.c (.bool true)) (.t 18)),
  fi 20 (.mv (.t 19)),
  .run ⟨(some 21), (some (20, false)), .f (.mv (.t 1))⟩,
  .run ⟨(some 22), (some (20, false)), .f (.bin .lss (.t 21) (.c (.int .i64 0)))⟩,
  fi 23 (.pick (.t 20) (.c (.bool true)) (.t 22)),
  fi 24 (.mv (.t 23)),
  .run ⟨(some 25), (some (24, false)), .f (.mv (.t 1))⟩,
  .run ⟨(some 26), (some (24, false)), .f (.mv (.t 2))⟩,
  .run ⟨(some 27), (some (24, false)), .f (.bin .geq (.t 25) (.t 26))⟩,
  fi 28 (.pick (.t 24) (.c (.bool true)) (.t 27))])
 (.ite (.t 28)
 (.seq (.reg [] [fi 6 (.mv (.c (.ptr none))),
  fi 7 (.mv (.c (.int .i64 1)))])
 .ret)
 .skip))
 (.seq (.reg [] [fi 30 (.mv (.t 0)),
  ei 31 (.call 45 [(.t 30), (.c (.str (mkS [114, 97, 102, 116])))]),
  fi 29 (.mv (.t 31)),
  fi 32 (.extract (.t 29) 0),
  fi 33 (.extract (.t 29) 1),
  fi 8 (.mv (.t 32)),
  fi 9 (.mv (.t 33))])
 (.seq (.seq (.reg [] [fi 34 (.mv (.t 9)),
  fi 35 (.bin .neq (.t 34) (.c (.int .i64 0)))])
 (.ite (.t 35)
 (.seq (.reg [] [fi 36 (.mv (.t 9)),
  fi 6 (.mv (.c (.ptr none))),
  fi 7 (.mv (.t 36))])
 .ret)
 .skip))
 (.seq (.reg [] [fi 37 (.mv (.t 8)),
  fi 38 (.mv (.t 1)),
  fi 39 (.mv (.t 2)),
  fi 40 (.build [(.ptr none), (.int .i64 0), (.int .i64 0), (.int .u64 0), (.int .i64 0), (.sl [] 0 2 .nil), (.int .i64 0), (.int .u8 0), (.int .i64 0), (.sl [] 0 1 .nil), (.sl [] 0 1 .nil), (.sl [] 0 1 .nil), (.int .i64 0), (.int .i64 0), (.int .u64 0), (.sl [] 0 3 .nil), (.bool false)] [(0, 1, (.t 37)), (1, 1, (.t 38)), (2, 1, (.t 39)), (4, 1, (.c (.int .i64 (-1)))), (8, 1, (.c (.int .i64 (-1)))), (13, 1, (.c (.int .i64 10)))]),
  ei 41 (.box (.t 40)),
  fi 10 (.mv (.t 41))])
 (.seq (.seq (.reg [] [fi 42 (.mv (.t 8)),
  ei 43 (.call 46 [(.t 42)]),
  fi 44 (.mv (.c (.int .i64 0)))])
 (.blk 0 (.loop l_raft_Open_0)))
 (.seq (.reg [] [fi 58 (.mv (.t 10)),
  fi 6 (.mv (.t 58)),
  fi 7 (.mv (.c (.int .i64 0)))])
 .ret)))))))
theorem k_raft_Open : chkFn Tryz.prog n_raft_Open ⟨b_raft_Open, [.tmp 6, .tmp 7], 59⟩ = true := by kernel_rfl
abbrev n_raft_message_encode : Nat := 126
def r_raft_message_encode_0 : Cd := (.seq (.blk 1 (.seq (.reg [] [fi 31 (.indexAddr 1 (.t 27) (.t 29)),
  fi 32 (.load false 1 (.t 31)),
  fi 5 (.mv (.t 32))])
 (.reg [] [fi 33 (.mv (.t 3)),
  fi 34 (.mv (.t 5)),
  ei 35 (.call 125 [(.t 34)]),
  ei 36 (.append 1 1 false (.t 33) (.t 35)),
  fi 3 (.mv (.t 36))])))
 (.reg [] [fi 37 (.bin .add (.t 29) (.c (.int .i64 1))),
  fi 29 (.mv (.t 37))]))
def l_raft_message_encode_0 : Cd := (.seq (.reg [] [fi 30 (.bin .lss (.t 29) (.t 28))])
 (.seq (.ite (.t 30)
 .skip
 (.exit 0))
 r_raft_message_encode_0))
def r_raft_message_encode_1 : Cd := (.seq (.blk 3 (.seq (.reg [] [fi 43 (.indexAddr 2 (.t 39) (.t 41)),
  fi 44 (.load true 2 (.t 43)),
  ei 7 (.alloc [(.int .u64 0), (.sl [] 0 1 .nil)]),
  st (.store 2 (.t 7) (.t 44))])
 (.seq (.reg [] [fi 45 (.mv (.t 3)),
  fi 46 (.fieldAddr 0 (.t 7)),
  fi 47 (.load false 1 (.t 46)),
  ei 48 (.call 125 [(.t 47)]),
  ei 49 (.append 1 1 false (.t 45) (.t 48)),
  fi 3 (.mv (.t 49))])
 (.reg [] [fi 50 (.mv (.t 3)),
  fi 51 (.fieldAddr 1 (.t 7)),
  fi 52 (.load false 1 (.t 51)),
  fi 53 (.conv .bytesStr (.t 52)),
  ei 54 (.call 197 [(.t 53)]),
  ei 55 (.append 1 1 false (.t 50) (.t 54)),
  fi 3 (.mv (.t 55))]))))
 (.reg [] [fi 56 (.bin .add (.t 41) (.c (.int .i64 1))),
  fi 41 (.mv (.t 56))]))
def l_raft_message_encode_1 : Cd := (.seq (.reg [] [fi 42 (.bin .lss (.t 41) (.t 40))])
 (.seq (.ite (.t 42)
 .skip
 (.exit 2))
 r_raft_message_encode_1))
def r_raft_message_encode_2 : Cd := (.seq (.seq (.reg [] [fi 15 (.fieldAddr 1 (.t 1)),
  fi 16 (.load false 1 (.t 15)),
  fi 17 (.fieldAddr 2 (.t 1)),
  fi 18 (.load false 1 (.t 17)),
  fi 19 (.fieldAddr 3 (.t 1)),
  fi 20 (.load false 1 (.t 19)),
  fi 21 (.fieldAddr 4 (.t 1)),
  fi 22 (.load false 1 (.t 21)),
  fi 23 (.fieldAddr 6 (.t 1)),
  fi 24 (.load false 1 (.t 23)),
  fi 25 (.len .sl (.t 24)),
  fi 26 (.conv (.int .u64) (.t 25)),
  ei 27 (.buildSlice 5 1 0 [(.int .u64 0), (.int .u64 0), (.int .u64 0), (.int .u64 0), (.int .u64 0)] [(0, 1, (.t 16)), (1, 1, (.t 18)), (2, 1, (.t 20)), (3, 1, (.t 22)), (4, 1, (.t 26))]),
  fi 28 (.len .sl (.t 27)),
  fi 29 (.mv (.c (.int .i64 0)))])
 (.blk 0 (.loop l_raft_message_encode_0)))
 (.seq (.seq (.reg [] [fi 38 (.fieldAddr 6 (.t 1)),
  fi 39 (.load false 1 (.t 38)),
  fi 40 (.len .sl (.t 39)),
  fi 41 (.mv (.c (.int .i64 0)))])
 (.blk 2 (.loop l_raft_message_encode_1)))
 (.seq (.reg [] [fi 57 (.mv (.t 3)),
  fi 2 (.mv (.t 57))])
 .ret)))
def b_raft_message_encode : Cd := (.seq (.reg [] [ei 1 (.box (.t 0)),
  fi 2 (.mv (.c (.sl [] 0 1 .nil)))])
 (.seq (.reg [] [fi 8 (.fieldAddr 0 (.t 1)),
  fi 9 (.load false 1 (.t 8)),
  ei 10 (.buildSlice 2 1 1 [(.int .u8 0), (.int .u8 0)] [(0, 1, (.t 9)), (1, 1, (.c (.int .u8 0)))]),
  fi 3 (.mv (.t 10))])
 (.seq (.seq (.reg [] [fi 11 (.fieldAddr 5 (.t 1)),
  fi 12 (.load false 1 (.t 11))])
 (.ite (.t 12)
 (.reg [] [fi 13 (.mv (.t 3)),
  fi 14 (.indexAddr 1 (.t 13) (.c (.int .i64 1))),
  st (.store 1 (.t 14) (.c (.int .u8 1)))])
 .skip))
 r_raft_message_encode_2)))
theorem k_raft_message_encode : chkFn Tryz.prog n_raft_message_encode ⟨b_raft_message_encode, [.tmp 2], 58⟩ = true := by kernel_rfl
abbrev n_wal_Log_Append : Nat := 122
def b_wal_Log_Append : Cd := (.seq (.reg [] [fi 4 (.mv (.c (.int .i64 0)))])
 (.seq (.seq (.reg [] [fi 8 (.mv (.t 0)),
  fi 9 (.eq false .ptr (.t 8) (.c (.ptr none)))])
 (.ite (.t 9)
 (.seq (.reg [] [fi 4 (.mv (.c (.int .i64 8)))])
 .ret)
 .skip))
 (.seq (.reg [] [fi 11 (.mv (.t 1)),
  ei 12 (.call 157 [(.t 11)]),
  fi 10 (.mv (.t 12)),
  fi 13 (.extract (.t 10) 0),
  fi 14 (.extract (.t 10) 1),
  fi 5 (.mv (.t 13)),
  fi 6 (.mv (.t 14))])
 (.seq (.seq (.reg [] [fi 15 (.mv (.t 6)),
  fi 16 (.bin .neq (.t 15) (.c (.int .i64 0)))])
 (.ite (.t 16)
 (.seq (.reg [] [fi 17 (.mv (.t 6)),
  fi 4 (.mv (.t 17))])
 .ret)
 .skip))
 (.seq (.seq (.reg [0, 1, 2, 3, 4, 5, 6, 7, 8, 9, 10] [fi 18 (.mv (.t 0)),
  fi 19 (.nilCheck (.t 18)),
  fi 20 (.fieldAddr 0 (.t 19)),
  fi 21 (.load false 1 (.t 20)),
  fi 22 (.mv (.t 0)),
  fi 23 (.nilCheck (.t 22)),
  fi 24 (.fieldAddr 1 (.t 23)),
  fi 25 (.load false 1 (.t 24)),
  fi 26 (.mv (.t 5)),
  ei 27 (.call 202 [(.t 21), (.t 25), (.t 26)]),
  fi 7 (.mv (.t 27))])
 (.seq (.reg [] [fi 28 (.mv (.t 7)),
  fi 29 (.bin .neq (.t 28) (.c (.int .i64 0)))])
 (.ite (.t 29)
 (.seq (.reg [] [fi 30 (.mv (.t 7)),
  fi 4 (.mv (.t 30))])
 .ret)
 .skip)))
 (.seq (.reg [0, 1, 2, 3, 4, 5, 6, 4, 7, 4, 8, 9, 10, 11] [fi 31 (.mv (.t 0)),
  fi 32 (.mv (.t 0)),
  fi 33 (.nilCheck (.t 32)),
  fi 34 (.fieldAddr 2 (.t 33)),
  fi 35 (.load false 1 (.t 34)),
  fi 36 (.mv (.t 1)),
  ei 37 (.append 1 1 false (.c (.sl [] 0 1 .nil)) (.t 36)),
  .chk 35 none (.load false 1 (.t 34)),
  ei 38 (.buildSlice 1 1 0 [(.sl [] 0 1 .nil)] [(0, 1, (.t 37))]),
  .chk 35 none (.load false 1 (.t 34)),
  ei 39 (.append 1 24 false (.t 35) (.t 38)),
  fi 40 (.nilCheck (.t 31)),
  fi 41 (.fieldAddr 2 (.t 40)),
  st (.store 1 (.t 41) (.t 39))])
 (.seq (.reg [] [fi 4 (.mv (.c (.int .i64 0)))])
 .ret)))))))
theorem k_wal_Log_Append : chkFn Tryz.prog n_wal_Log_Append ⟨b_wal_Log_Append, [.tmp 4], 42⟩ = true := by kernel_rfl
abbrev n_wal_Log_Len : Nat := 46
def b_wal_Log_Len : Cd := (.seq (.reg [] [fi 2 (.mv (.c (.int .i64 0)))])
 (.seq (.seq (.reg [] [fi 3 (.mv (.t 0)),
  fi 4 (.eq false .ptr (.t 3) (.c (.ptr none)))])
 (.ite (.t 4)
 (.seq (.reg [] [fi 2 (.mv (.c (.int .i64 0)))])
 .ret)
 .skip))
 (.seq (.reg [] [fi 5 (.mv (.t 0)),
  fi 6 (.nilCheck (.t 5)),
  fi 7 (.fieldAddr 2 (.t 6)),
  fi 8 (.load false 1 (.t 7)),
  fi 9 (.len .sl (.t 8)),
  fi 2 (.mv (.t 9))])
 .ret)))
theorem k_wal_Log_Len : chkFn Tryz.prog n_wal_Log_Len ⟨b_wal_Log_Len, [.tmp 2], 10⟩ = true := by kernel_rfl
abbrev n_wal_Log_Sync : Nat := 124
def b_wal_Log_Sync : Cd := (.seq (.reg [] [fi 2 (.mv (.c (.int .i64 0)))])
 (.seq (.seq (.reg [] [fi 4 (.mv (.t 0)),
  fi 5 (.eq false .ptr (.t 4) (.c (.ptr none)))])
 (.ite (.t 5)
 (.seq (.reg [] [fi 2 (.mv (.c (.int .i64 8)))])
 .ret)
 .skip))
 (.seq (.reg [0, 1, 2, 3, 4, 5, 6, 7, 8, 9] [fi 6 (.mv (.t 0)),
  fi 7 (.nilCheck (.t 6)),
  fi 8 (.fieldAddr 0 (.t 7)),
  fi 9 (.load false 1 (.t 8)),
  fi 10 (.mv (.t 0)),
  fi 11 (.nilCheck (.t 10)),
  fi 12 (.fieldAddr 1 (.t 11)),
  fi 13 (.load false 1 (.t 12)),
  ei 14 (.call 159 [(.t 9), (.t 13)]),
  fi 3 (.mv (.t 14))])
 (.seq (.seq (.reg [] [fi 15 (.mv (.t 3)),
  fi 16 (.bin .eql (.t 15) (.c (.int .i64 8))),
  fi 17 (.mv (.t 16)),
  .run ⟨(some 18), (some (17, true)), .f (.mv (.t 0))⟩,
  .run ⟨(some 19), (some (17, true)), .f (.nilCheck (.t 18))⟩,
  .run ⟨(some 20), (some (17, true)), .f (.fieldAddr 2 (.t 19))⟩,
  .run ⟨(some 21), (some (17, true)), .f (.load false 1 (.t 20))⟩,
  .run ⟨(some 22), (some (17, true)), .f (.len .sl (.t 21))⟩,
  .run ⟨(some 23), (some (17, true)), .f (.bin .eql (.t 22) (.c (.int .i64 0)))⟩,
  fi 24 (.pick (.t 17) (.t 23) (.c (.bool false)))])
 (.ite (.t 24)
 (.seq (.reg [] [fi 2 (.mv (.c (.int .i64 0)))])
 .ret)
 .skip))
 (.seq (.reg [] [fi 25 (.mv (.t 3)),
  fi 2 (.mv (.t 25))])
 .ret)))))
theorem k_wal_Log_Sync : chkFn Tryz.prog n_wal_Log_Sync ⟨b_wal_Log_Sync, [.tmp 2], 26⟩ = true := by kernel_rfl
abbrev n_wal_Open : Nat := 45
def r_wal_Open_0 : Cd := (.seq (.reg [] [fi 48 (.mv (.t 7)),
  ei 49 (.call 92 [(.t 48)]),
  fi 47 (.mv (.t 49)),
  fi 50 (.extract (.t 47) 0),
  fi 51 (.extract (.t 47) 1),
  fi 9 (.mv (.t 50)),
  fi 10 (.mv (.t 51))])
 (.seq (.reg [] [fi 52 (.mv (.t 0)),
  fi 53 (.mv (.t 1)),
  fi 54 (.mv (.t 9)),
  fi 55 (.build [(.ptr none), (.str (mkS [])), (.sl [] 0 1 .nil)] [(0, 1, (.t 52)), (1, 1, (.t 53)), (2, 1, (.t 54))]),
  ei 56 (.box (.t 55)),
  fi 11 (.mv (.t 56))])
 (.seq (.seq (.reg [] [fi 57 (.mv (.t 10)),
  fi 58 (.mv (.t 7)),
  fi 59 (.len .sl (.t 58)),
  fi 60 (.bin .lss (.t 57) (.t 59))])
 (.ite (.t 60)
 (.seq (.reg [] [fi 61 (.mv (.t 11)),
  fi 62 (.mv (.t 9)),
  ei 63 (.call 93 [(.t 61), (.t 62)]),
  fi 12 (.mv (.t 63))])
 (.seq (.reg [] [fi 64 (.mv (.t 12)),
  fi 65 (.bin .neq (.t 64) (.c (.int .i64 0)))])
 (.ite (.t 65)
 (.seq (.reg [] [fi 66 (.mv (.t 12)),
  fi 4 (.mv (.c (.ptr none))),
  fi 5 (.mv (.t 66))])
 .ret)
 .skip)))
 .skip))
 (.seq (.reg [] [fi 67 (.mv (.t 11)),
  fi 4 (.mv (.t 67)),
  fi 5 (.mv (.c (.int .i64 0)))])
 .ret))))
def r_wal_Open_1 : Cd := (.seq (.reg [] [fi 35 (.mv (.t 0)),
  fi 36 (.mv (.t 1)),
  ei 37 (.call 91 [(.t 35), (.t 36)]),
  fi 34 (.mv (.t 37)),
  fi 38 (.extract (.t 34) 0),
  fi 39 (.extract (.t 34) 1),
  fi 7 (.mv (.t 38)),
  fi 8 (.mv (.t 39))])
 (.seq (.seq (.reg [] [fi 40 (.mv (.t 8)),
  fi 41 (.bin .neq (.t 40) (.c (.int .i64 0))),
  fi 42 (.mv (.t 41)),
  .run ⟨(some 43), (some (42, true)), .f (.mv (.t 8))⟩,
  .run ⟨(some 44), (some (42, true)), .f (.bin .neq (.t 43) (.c (.int .i64 8)))⟩,
  fi 45 (.pick (.t 42) (.t 44) (.c (.bool false)))])
 (.ite (.t 45)
 (.seq (.reg [] [fi 46 (.mv (.t 8)),
  fi 4 (.mv (.c (.ptr none))),
  fi 5 (.mv (.t 46))])
 .ret)
 .skip))
 r_wal_Open_0))
def r_wal_Open_2 : Cd := (.seq (.seq (.reg [] [fi 23 (.mv (.t 0)),
  fi 24 (.mv (.t 1)),
  fi 25 (.bin .add (.t 24) (.c (.str (mkS [46, 110, 101, 119])))),
  ei 26 (.call 90 [(.t 23), (.t 25)]),
  fi 6 (.mv (.t 26))])
 (.seq (.reg [] [fi 27 (.mv (.t 6)),
  fi 28 (.bin .neq (.t 27) (.c (.int .i64 0))),
  fi 29 (.mv (.t 28)),
  .run ⟨(some 30), (some (29, true)), .f (.mv (.t 6))⟩,
  .run ⟨(some 31), (some (29, true)), .f (.bin .neq (.t 30) (.c (.int .i64 8)))⟩,
  fi 32 (.pick (.t 29) (.t 31) (.c (.bool false)))])
 (.ite (.t 32)
 (.seq (.reg [] [fi 33 (.mv (.t 6)),
  fi 4 (.mv (.c (.ptr none))),
  fi 5 (.mv (.t 33))])
 .ret)
 .skip)))
 r_wal_Open_1)
def b_wal_Open : Cd := (.seq (.reg [] [fi 4 (.mv (.c (.ptr none))),
  fi 5 (.mv (.c (.int .i64 0)))])
 (.seq (.seq (.reg [] [fi 13 (.mv (.t 0)),
  fi 14 (.eq false .ptr (.t 13) (.c (.ptr none)))])
 (.ite (.t 14)
 (.seq (.reg [] [fi 4 (.mv (.c (.ptr none))),
  fi 5 (.mv (.c (.int .i64 8)))])
 .ret)
 .skip))
 (.seq (.seq (.reg [] [fi 15 (.mv (.t 1)),
  ei 16 (.call 89 [(.t 15)]),
  fi 17 (.un .not (.t 16)),
  fi 18 (.mv (.t 17)),
  .run ⟨(some 19), (some (18, false)), .f (.mv (.t 1))⟩,
  .run ⟨(some 20), (some (18, false)), .f (.len .str (.t 19))⟩,
  .run ⟨(some 21), (some (18, false)), .f (.bin .gtr (.t 20) (.c (.int .i64 28)))⟩,
  fi 22 (.pick (.t 18) (.c (.bool true)) (.t 21))])
 (.ite (.t 22)
 (.seq (.reg [] [fi 4 (.mv (.c (.ptr none))),
  fi 5 (.mv (.c (.int .i64 1)))])
 .ret)
 .skip))
 r_wal_Open_2)))
theorem k_wal_Open : chkFn Tryz.prog n_wal_Open ⟨b_wal_Open, [.tmp 4, .tmp 5], 68⟩ = true := by kernel_rfl
abbrev n_wal_Scan : Nat := 92
def l_wal_Scan_0 : Cd := (.blk 1 (.seq (.reg [] [fi 10 (.mv (.t 0)),
  fi 11 (.mv (.t 5)),
  ei 12 (.call 156 [(.t 10), (.t 11)]),
  fi 9 (.mv (.t 12)),
  fi 13 (.extract (.t 9) 0),
  fi 14 (.extract (.t 9) 1),
  fi 15 (.extract (.t 9) 2),
  fi 6 (.mv (.t 13)),
  fi 7 (.mv (.t 14)),
  fi 8 (.mv (.t 15))])
 (.seq (.seq (.reg [] [fi 16 (.mv (.t 8)),
  fi 17 (.bin .neq (.t 16) (.c (.int .i64 0)))])
 (.ite (.t 17)
 (.seq (.reg [] [fi 18 (.mv (.t 4)),
  fi 19 (.mv (.t 5)),
  fi 2 (.mv (.t 18)),
  fi 3 (.mv (.t 19))])
 .ret)
 .skip))
 (.reg [] [fi 20 (.mv (.t 4)),
  fi 21 (.mv (.t 6)),
  ei 22 (.buildSlice 1 1 0 [(.sl [] 0 1 .nil)] [(0, 1, (.t 21))]),
  ei 23 (.append 1 24 false (.t 20) (.t 22)),
  fi 24 (.mv (.t 7)),
  fi 4 (.mv (.t 23)),
  fi 5 (.mv (.t 24))]))))
def b_wal_Scan : Cd := (.seq (.reg [] [fi 2 (.mv (.c (.sl [] 0 1 .nil))),
  fi 3 (.mv (.c (.int .i64 0)))])
 (.seq (.reg [] [fi 4 (.mv (.c (.sl [] 0 1 .nil)))])
 (.seq (.reg [] [fi 5 (.mv (.c (.int .i64 0)))])
 (.blk 0 (.loop l_wal_Scan_0)))))
theorem k_wal_Scan : chkFn Tryz.prog n_wal_Scan ⟨b_wal_Scan, [.tmp 2, .tmp 3], 25⟩ = true := by kernel_rfl
end Go.VM
