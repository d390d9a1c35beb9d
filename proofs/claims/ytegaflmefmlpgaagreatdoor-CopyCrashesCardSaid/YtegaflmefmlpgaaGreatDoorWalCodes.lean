/-
  The codes of functions, as the value machine has them, and that they stand for the model's (printed by a program, wip/gen).
-/
import Derived.Test.YtegaflmefmlpgaaGreatDoorDCodes
import Derived.Test.YtegaflmefmlpgaaGreatDoorProg
import Derived.KernelRfl
set_option linter.unusedVariables false
set_option maxRecDepth 100000
namespace Go.VM
open Go Go.Proofs

/-- (*fascine/wal.Log).Append -/
abbrev n_wal_Log_Append : Nat := 32
def b_wal_Log_Append : Cd := (.seq (.reg [] [fi 4 (.mv (.c (.int .i64 0)))])
   (.seq (.seq (.reg [] [fi 8 (.mv (.t 0)),
    fi 9 (.eq false .ptr (.t 8) (.c (.ptr none)))])
   (.ite (.t 9)
   (.seq (.reg [] [fi 4 (.mv (.c (.int .i64 8)))])
   .ret)
   .skip))
   (.seq (.reg [] [fi 11 (.mv (.t 1)),
    ei 12 (.call 51 [(.t 11)]),
    fi 10 (.mv (.t 12)),
    fi 13 (.extract (.t 10) 0),
    fi 14 (.extract (.t 10) 1),
    fi 5 (.mv (.t 13)),
    fi 6 (.mv (.t 14))])
   (.seq (.seq (.reg [] [fi 15 (.mv (.t 6)),
    fi 16 (.bin .neq (.t 15) (.c (.int .i64 0)))])
   (.ite (.t 16)
   (.seq (.reg [] [fi 17 (.mv (.t 6)),
    fi 4 (.mv (.t 17))])
   .ret)
   .skip))
   (.seq (.seq (.reg [0, 1, 2, 3, 4, 5, 6, 7, 8, 9, 10] [fi 18 (.mv (.t 0)),
    fi 19 (.nilCheck (.t 18)),
    fi 20 (.fieldAddr 0 (.t 19)),
    fi 21 (.load false 1 (.t 20)),
    fi 22 (.mv (.t 0)),
    fi 23 (.nilCheck (.t 22)),
    fi 24 (.fieldAddr 1 (.t 23)),
    fi 25 (.load false 1 (.t 24)),
    fi 26 (.mv (.t 5)),
    ei 27 (.call 52 [(.t 21), (.t 25), (.t 26)]),
    fi 7 (.mv (.t 27))])
   (.seq (.reg [] [fi 28 (.mv (.t 7)),
    fi 29 (.bin .neq (.t 28) (.c (.int .i64 0)))])
   (.ite (.t 29)
   (.seq (.reg [] [fi 30 (.mv (.t 7)),
    fi 4 (.mv (.t 30))])
   .ret)
   .skip)))
   (.seq (.reg [0, 1, 2, 3, 4, 5, 6, 4, 7, 4, 8, 9, 10, 11] [fi 31 (.mv (.t 0)),
    fi 32 (.mv (.t 0)),
    fi 33 (.nilCheck (.t 32)),
    fi 34 (.fieldAddr 2 (.t 33)),
    fi 35 (.load false 1 (.t 34)),
    fi 36 (.mv (.t 1)),
    ei 37 (.append 1 1 false (.c (.sl [] 0 1 .nil)) (.t 36)),
    .chk 35 none (.load false 1 (.t 34)),
    ei 38 (.buildSlice 1 1 0 [(.sl [] 0 1 .nil)] [(0, 1, (.t 37))]),
    .chk 35 none (.load false 1 (.t 34)),
    ei 39 (.append 1 24 false (.t 35) (.t 38)),
    fi 40 (.nilCheck (.t 31)),
    fi 41 (.fieldAddr 2 (.t 40)),
    st (.store 1 (.t 41) (.t 39))])
   (.seq (.reg [] [fi 4 (.mv (.c (.int .i64 0)))])
   .ret)))))))
theorem k_wal_Log_Append : chkFn Tryz.prog n_wal_Log_Append ⟨b_wal_Log_Append, [.tmp 4], 42⟩ = true := by kernel_rfl
/-- (*fascine/wal.Log).At -/
abbrev n_wal_Log_At : Nat := 19
def b_wal_Log_At : Cd := (.seq (.reg [] [fi 4 (.mv (.c (.sl [] 0 1 .nil))),
    fi 5 (.mv (.c (.int .i64 0)))])
   (.seq (.seq (.reg [] [fi 6 (.mv (.t 1)),
    fi 7 (.bin .lss (.t 6) (.c (.int .i64 0))),
    fi 8 (.mv (.t 7)),
    .run ⟨(some 9), (some (8, false)), .f (.mv (.t 1))⟩,
    .run ⟨(some 10), (some (8, false)), .f (.mv (.t 0))⟩,
    .run ⟨(some 11), (some (8, false)), .e (.call 18 [(.t 10)])⟩,
    .run ⟨(some 12), (some (8, false)), .f (.bin .geq (.t 9) (.t 11))⟩,
    fi 13 (.pick (.t 8) (.c (.bool true)) (.t 12))])
   (.ite (.t 13)
   (.seq (.reg [] [fi 4 (.mv (.c (.sl [] 0 1 .nil))),
    fi 5 (.mv (.c (.int .i64 8)))])
   .ret)
   .skip))
   (.seq (.reg [] [fi 14 (.mv (.t 0)),
    fi 15 (.nilCheck (.t 14)),
    fi 16 (.fieldAddr 2 (.t 15)),
    fi 17 (.load false 1 (.t 16)),
    fi 18 (.mv (.t 1)),
    fi 19 (.indexAddr 1 (.t 17) (.t 18)),
    fi 20 (.load false 1 (.t 19)),
    ei 21 (.append 1 1 false (.c (.sl [] 0 1 .nil)) (.t 20)),
    fi 4 (.mv (.t 21)),
    fi 5 (.mv (.c (.int .i64 0)))])
   .ret)))
theorem k_wal_Log_At : chkFn Tryz.prog n_wal_Log_At ⟨b_wal_Log_At, [.tmp 4, .tmp 5], 22⟩ = true := by kernel_rfl
/-- (*fascine/wal.Log).Len -/
abbrev n_wal_Log_Len : Nat := 18
def b_wal_Log_Len : Cd := (.seq (.reg [] [fi 2 (.mv (.c (.int .i64 0)))])
   (.seq (.seq (.reg [] [fi 3 (.mv (.t 0)),
    fi 4 (.eq false .ptr (.t 3) (.c (.ptr none)))])
   (.ite (.t 4)
   (.seq (.reg [] [fi 2 (.mv (.c (.int .i64 0)))])
   .ret)
   .skip))
   (.seq (.reg [] [fi 5 (.mv (.t 0)),
    fi 6 (.nilCheck (.t 5)),
    fi 7 (.fieldAddr 2 (.t 6)),
    fi 8 (.load false 1 (.t 7)),
    fi 9 (.len .sl (.t 8)),
    fi 2 (.mv (.t 9))])
   .ret)))
theorem k_wal_Log_Len : chkFn Tryz.prog n_wal_Log_Len ⟨b_wal_Log_Len, [.tmp 2], 10⟩ = true := by kernel_rfl
/-- (*fascine/wal.Log).Set -/
abbrev n_wal_Log_Set : Nat := 46
def l_wal_Log_Set_0 : Cd := (.seq (.reg [] [fi 34 (.bin .lss (.t 33) (.t 32))])
   (.seq (.ite (.t 34)
   .skip
   (.exit 0))
   (.seq (.blk 1 (.seq (.reg [] [fi 35 (.indexAddr 1 (.t 31) (.t 33)),
    fi 36 (.load false 1 (.t 35)),
    fi 9 (.mv (.t 36))])
   (.reg [] [fi 37 (.mv (.t 7)),
    fi 38 (.mv (.t 9)),
    ei 39 (.append 1 1 false (.c (.sl [] 0 1 .nil)) (.t 38)),
    ei 40 (.buildSlice 1 1 0 [(.sl [] 0 1 .nil)] [(0, 1, (.t 39))]),
    ei 41 (.append 1 24 false (.t 37) (.t 40)),
    fi 7 (.mv (.t 41))])))
   (.reg [] [fi 42 (.bin .add (.t 33) (.c (.int .i64 1))),
    fi 33 (.mv (.t 42))]))))
def s_wal_Log_Set_0 : Cd := (.seq (.seq (.reg [] [fi 43 (.mv (.t 0)),
    fi 44 (.mv (.t 7)),
    ei 45 (.call 38 [(.t 43), (.t 44)]),
    fi 10 (.mv (.t 45))])
   (.seq (.reg [] [fi 46 (.mv (.t 10)),
    fi 47 (.bin .neq (.t 46) (.c (.int .i64 0)))])
   (.ite (.t 47)
   (.seq (.reg [] [fi 48 (.mv (.t 10)),
    fi 6 (.mv (.t 48))])
   .ret)
   .skip)))
   (.seq (.reg [] [fi 49 (.mv (.t 0)),
    fi 50 (.mv (.t 7)),
    fi 51 (.nilCheck (.t 49)),
    fi 52 (.fieldAddr 2 (.t 51)),
    st (.store 1 (.t 52) (.t 50))])
   (.seq (.reg [] [fi 6 (.mv (.c (.int .i64 0)))])
   .ret)))
def b_wal_Log_Set : Cd := (.seq (.reg [] [fi 6 (.mv (.c (.int .i64 0)))])
   (.seq (.seq (.reg [] [fi 11 (.mv (.t 0)),
    fi 12 (.eq false .ptr (.t 11) (.c (.ptr none)))])
   (.ite (.t 12)
   (.seq (.reg [] [fi 6 (.mv (.c (.int .i64 8)))])
   .ret)
   .skip))
   (.seq (.seq (.reg [] [fi 13 (.mv (.t 1)),
    fi 14 (.bin .lss (.t 13) (.c (.int .i64 0))),
    fi 15 (.mv (.t 14)),
    .run ⟨(some 16), (some (15, false)), .f (.mv (.t 1))⟩,
    .run ⟨(some 17), (some (15, false)), .f (.mv (.t 0))⟩,
    .run ⟨(some 18), (some (15, false)), .f (.nilCheck (.t 17))⟩,
    .run ⟨(some 19), (some (15, false)), .f (.fieldAddr 2 (.t 18))⟩,
    .run ⟨(some 20), (some (15, false)), .f (.load false 1 (.t 19))⟩,
    .run ⟨(some 21), (some (15, false)), .f (.len .sl (.t 20))⟩,
    .run ⟨(some 22), (some (15, false)), .f (.bin .gtr (.t 16) (.t 21))⟩,
    fi 23 (.pick (.t 15) (.c (.bool true)) (.t 22))])
   (.ite (.t 23)
   (.seq (.reg [] [fi 6 (.mv (.c (.int .i64 1)))])
   .ret)
   .skip))
   (.seq (.reg [] [fi 24 (.mv (.t 0)),
    fi 25 (.nilCheck (.t 24)),
    fi 26 (.fieldAddr 2 (.t 25)),
    fi 27 (.load false 1 (.t 26)),
    fi 28 (.mv (.t 1)),
    fi 29 (.slice 1 (.t 27) none (some (.t 28)) none),
    ei 30 (.append 1 24 false (.c (.sl [] 0 1 .nil)) (.t 29)),
    fi 7 (.mv (.t 30))])
   (.seq (.seq (.reg [] [fi 31 (.mv (.t 2)),
    fi 32 (.len .sl (.t 31)),
    fi 33 (.mv (.c (.int .i64 0)))])
   (.blk 0 (.loop l_wal_Log_Set_0)))
   s_wal_Log_Set_0)))))
theorem k_wal_Log_Set : chkFn Tryz.prog n_wal_Log_Set ⟨b_wal_Log_Set, [.tmp 6], 53⟩ = true := by kernel_rfl
/-- (*fascine/wal.Log).Sync -/
abbrev n_wal_Log_Sync : Nat := 33
def b_wal_Log_Sync : Cd := (.seq (.reg [] [fi 2 (.mv (.c (.int .i64 0)))])
   (.seq (.seq (.reg [] [fi 4 (.mv (.t 0)),
    fi 5 (.eq false .ptr (.t 4) (.c (.ptr none)))])
   (.ite (.t 5)
   (.seq (.reg [] [fi 2 (.mv (.c (.int .i64 8)))])
   .ret)
   .skip))
   (.seq (.reg [0, 1, 2, 3, 4, 5, 6, 7, 8, 9] [fi 6 (.mv (.t 0)),
    fi 7 (.nilCheck (.t 6)),
    fi 8 (.fieldAddr 0 (.t 7)),
    fi 9 (.load false 1 (.t 8)),
    fi 10 (.mv (.t 0)),
    fi 11 (.nilCheck (.t 10)),
    fi 12 (.fieldAddr 1 (.t 11)),
    fi 13 (.load false 1 (.t 12)),
    ei 14 (.call 53 [(.t 9), (.t 13)]),
    fi 3 (.mv (.t 14))])
   (.seq (.seq (.reg [] [fi 15 (.mv (.t 3)),
    fi 16 (.bin .eql (.t 15) (.c (.int .i64 8))),
    fi 17 (.mv (.t 16)),
    .run ⟨(some 18), (some (17, true)), .f (.mv (.t 0))⟩,
    .run ⟨(some 19), (some (17, true)), .f (.nilCheck (.t 18))⟩,
    .run ⟨(some 20), (some (17, true)), .f (.fieldAddr 2 (.t 19))⟩,
    .run ⟨(some 21), (some (17, true)), .f (.load false 1 (.t 20))⟩,
    .run ⟨(some 22), (some (17, true)), .f (.len .sl (.t 21))⟩,
    .run ⟨(some 23), (some (17, true)), .f (.bin .eql (.t 22) (.c (.int .i64 0)))⟩,
    fi 24 (.pick (.t 17) (.t 23) (.c (.bool false)))])
   (.ite (.t 24)
   (.seq (.reg [] [fi 2 (.mv (.c (.int .i64 0)))])
   .ret)
   .skip))
   (.seq (.reg [] [fi 25 (.mv (.t 3)),
    fi 2 (.mv (.t 25))])
   .ret)))))
theorem k_wal_Log_Sync : chkFn Tryz.prog n_wal_Log_Sync ⟨b_wal_Log_Sync, [.tmp 2], 26⟩ = true := by kernel_rfl
/-- (*fascine/wal.Log).write -/
abbrev n_wal_Log_write : Nat := 38
def r_wal_Log_write_0 : Cd := (.seq (.blk 1 (.seq (.reg [] [fi 15 (.indexAddr 1 (.t 11) (.t 13)),
    fi 16 (.load false 1 (.t 15)),
    fi 7 (.mv (.t 16))])
   (.seq (.reg [] [fi 18 (.mv (.t 7)),
    ei 19 (.call 51 [(.t 18)]),
    fi 17 (.mv (.t 19)),
    fi 20 (.extract (.t 17) 0),
    fi 21 (.extract (.t 17) 1),
    fi 8 (.mv (.t 20)),
    fi 9 (.mv (.t 21))])
   (.seq (.seq (.reg [] [fi 22 (.mv (.t 9)),
    fi 23 (.bin .neq (.t 22) (.c (.int .i64 0)))])
   (.ite (.t 23)
   (.seq (.reg [] [fi 24 (.mv (.t 9)),
    fi 4 (.mv (.t 24))])
   .ret)
   .skip))
   (.reg [] [fi 25 (.mv (.t 5)),
    fi 26 (.mv (.t 8)),
    ei 27 (.append 1 1 false (.t 25) (.t 26)),
    fi 5 (.mv (.t 27))])))))
   (.reg [] [fi 28 (.bin .add (.t 13) (.c (.int .i64 1))),
    fi 13 (.mv (.t 28))]))
def l_wal_Log_write_0 : Cd := (.seq (.reg [] [fi 14 (.bin .lss (.t 13) (.t 12))])
   (.seq (.ite (.t 14)
   .skip
   (.exit 0))
   r_wal_Log_write_0))
def r_wal_Log_write_1 : Cd := (.seq (.seq (.reg [] [fi 68 (.mv (.t 10)),
    fi 69 (.bin .neq (.t 68) (.c (.int .i64 0))),
    fi 70 (.mv (.t 69)),
    .run ⟨(some 71), (some (70, true)), .f (.mv (.t 10))⟩,
    .run ⟨(some 72), (some (70, true)), .f (.bin .neq (.t 71) (.c (.int .i64 10)))⟩,
    fi 73 (.pick (.t 70) (.t 72) (.c (.bool false)))])
   (.ite (.t 73)
   (.reg [0, 1, 2, 3, 4, 5, 6, 7, 8, 9] [fi 74 (.mv (.t 0)),
    fi 75 (.nilCheck (.t 74)),
    fi 76 (.fieldAddr 0 (.t 75)),
    fi 77 (.load false 1 (.t 76)),
    fi 78 (.mv (.t 0)),
    fi 79 (.nilCheck (.t 78)),
    fi 80 (.fieldAddr 1 (.t 79)),
    fi 81 (.load false 1 (.t 80)),
    fi 82 (.bin .add (.t 81) (.c (.str (mkS [46, 110, 101, 119])))),
    ei 83 (.call 35 [(.t 77), (.t 82)])])
   .skip))
   (.seq (.reg [] [fi 84 (.mv (.t 10)),
    fi 4 (.mv (.t 84))])
   .ret))
def r_wal_Log_write_2 : Cd := (.seq (.seq (.reg [] [fi 52 (.mv (.t 10)),
    fi 53 (.bin .eql (.t 52) (.c (.int .i64 0)))])
   (.ite (.t 53)
   (.reg [0, 1, 2, 3, 4, 5, 6, 7, 8, 9, 10, 11, 12, 13, 14] [fi 54 (.mv (.t 0)),
    fi 55 (.nilCheck (.t 54)),
    fi 56 (.fieldAddr 0 (.t 55)),
    fi 57 (.load false 1 (.t 56)),
    fi 58 (.mv (.t 0)),
    fi 59 (.nilCheck (.t 58)),
    fi 60 (.fieldAddr 1 (.t 59)),
    fi 61 (.load false 1 (.t 60)),
    fi 62 (.bin .add (.t 61) (.c (.str (mkS [46, 110, 101, 119])))),
    fi 63 (.mv (.t 0)),
    fi 64 (.nilCheck (.t 63)),
    fi 65 (.fieldAddr 1 (.t 64)),
    fi 66 (.load false 1 (.t 65)),
    ei 67 (.call 59 [(.t 57), (.t 62), (.t 66)]),
    fi 10 (.mv (.t 67))])
   .skip))
   r_wal_Log_write_1)
def s_wal_Log_write_0 : Cd := (.seq (.reg [0, 1, 2, 3, 4, 5, 6, 7, 8, 9, 10, 11] [fi 29 (.mv (.t 0)),
    fi 30 (.nilCheck (.t 29)),
    fi 31 (.fieldAddr 0 (.t 30)),
    fi 32 (.load false 1 (.t 31)),
    fi 33 (.mv (.t 0)),
    fi 34 (.nilCheck (.t 33)),
    fi 35 (.fieldAddr 1 (.t 34)),
    fi 36 (.load false 1 (.t 35)),
    fi 37 (.bin .add (.t 36) (.c (.str (mkS [46, 110, 101, 119])))),
    fi 38 (.mv (.t 5)),
    ei 39 (.call 58 [(.t 32), (.t 37), (.t 38)]),
    fi 10 (.mv (.t 39))])
   (.seq (.seq (.reg [] [fi 40 (.mv (.t 10)),
    fi 41 (.bin .eql (.t 40) (.c (.int .i64 0)))])
   (.ite (.t 41)
   (.reg [0, 1, 2, 3, 4, 5, 6, 7, 8, 9, 10] [fi 42 (.mv (.t 0)),
    fi 43 (.nilCheck (.t 42)),
    fi 44 (.fieldAddr 0 (.t 43)),
    fi 45 (.load false 1 (.t 44)),
    fi 46 (.mv (.t 0)),
    fi 47 (.nilCheck (.t 46)),
    fi 48 (.fieldAddr 1 (.t 47)),
    fi 49 (.load false 1 (.t 48)),
    fi 50 (.bin .add (.t 49) (.c (.str (mkS [46, 110, 101, 119])))),
    ei 51 (.call 53 [(.t 45), (.t 50)]),
    fi 10 (.mv (.t 51))])
   .skip))
   r_wal_Log_write_2))
def b_wal_Log_write : Cd := (.seq (.reg [] [fi 4 (.mv (.c (.int .i64 0)))])
   (.seq (.reg [] [fi 5 (.mv (.c (.sl [] 0 1 .nil)))])
   (.seq (.seq (.reg [] [fi 11 (.mv (.t 1)),
    fi 12 (.len .sl (.t 11)),
    fi 13 (.mv (.c (.int .i64 0)))])
   (.blk 0 (.loop l_wal_Log_write_0)))
   s_wal_Log_write_0)))
theorem k_wal_Log_write : chkFn Tryz.prog n_wal_Log_write ⟨b_wal_Log_write, [.tmp 4], 85⟩ = true := by kernel_rfl
/-- fascine/wal.Open -/
abbrev n_wal_Open : Nat := 16
def r_wal_Open_0 : Cd := (.seq (.reg [] [fi 48 (.mv (.t 7)),
    ei 49 (.call 37 [(.t 48)]),
    fi 47 (.mv (.t 49)),
    fi 50 (.extract (.t 47) 0),
    fi 51 (.extract (.t 47) 1),
    fi 9 (.mv (.t 50)),
    fi 10 (.mv (.t 51))])
   (.seq (.reg [] [fi 52 (.mv (.t 0)),
    fi 53 (.mv (.t 1)),
    fi 54 (.mv (.t 9)),
    fi 55 (.build [(.ptr none), (.str (mkS [])), (.sl [] 0 1 .nil)] [(0, 1, (.t 52)), (1, 1, (.t 53)), (2, 1, (.t 54))]),
    ei 56 (.box (.t 55)),
    fi 11 (.mv (.t 56))])
   (.seq (.seq (.reg [] [fi 57 (.mv (.t 10)),
    fi 58 (.mv (.t 7)),
    fi 59 (.len .sl (.t 58)),
    fi 60 (.bin .lss (.t 57) (.t 59))])
   (.ite (.t 60)
   (.seq (.reg [] [fi 61 (.mv (.t 11)),
    fi 62 (.mv (.t 9)),
    ei 63 (.call 38 [(.t 61), (.t 62)]),
    fi 12 (.mv (.t 63))])
   (.seq (.reg [] [fi 64 (.mv (.t 12)),
    fi 65 (.bin .neq (.t 64) (.c (.int .i64 0)))])
   (.ite (.t 65)
   (.seq (.reg [] [fi 66 (.mv (.t 12)),
    fi 4 (.mv (.c (.ptr none))),
    fi 5 (.mv (.t 66))])
   .ret)
   .skip)))
   .skip))
   (.seq (.reg [] [fi 67 (.mv (.t 11)),
    fi 4 (.mv (.t 67)),
    fi 5 (.mv (.c (.int .i64 0)))])
   .ret))))
def r_wal_Open_1 : Cd := (.seq (.reg [] [fi 35 (.mv (.t 0)),
    fi 36 (.mv (.t 1)),
    ei 37 (.call 36 [(.t 35), (.t 36)]),
    fi 34 (.mv (.t 37)),
    fi 38 (.extract (.t 34) 0),
    fi 39 (.extract (.t 34) 1),
    fi 7 (.mv (.t 38)),
    fi 8 (.mv (.t 39))])
   (.seq (.seq (.reg [] [fi 40 (.mv (.t 8)),
    fi 41 (.bin .neq (.t 40) (.c (.int .i64 0))),
    fi 42 (.mv (.t 41)),
    .run ⟨(some 43), (some (42, true)), .f (.mv (.t 8))⟩,
    .run ⟨(some 44), (some (42, true)), .f (.bin .neq (.t 43) (.c (.int .i64 8)))⟩,
    fi 45 (.pick (.t 42) (.t 44) (.c (.bool false)))])
   (.ite (.t 45)
   (.seq (.reg [] [fi 46 (.mv (.t 8)),
    fi 4 (.mv (.c (.ptr none))),
    fi 5 (.mv (.t 46))])
   .ret)
   .skip))
   r_wal_Open_0))
def r_wal_Open_2 : Cd := (.seq (.seq (.reg [] [fi 23 (.mv (.t 0)),
    fi 24 (.mv (.t 1)),
    fi 25 (.bin .add (.t 24) (.c (.str (mkS [46, 110, 101, 119])))),
    ei 26 (.call 35 [(.t 23), (.t 25)]),
    fi 6 (.mv (.t 26))])
   (.seq (.reg [] [fi 27 (.mv (.t 6)),
    fi 28 (.bin .neq (.t 27) (.c (.int .i64 0))),
    fi 29 (.mv (.t 28)),
    .run ⟨(some 30), (some (29, true)), .f (.mv (.t 6))⟩,
    .run ⟨(some 31), (some (29, true)), .f (.bin .neq (.t 30) (.c (.int .i64 8)))⟩,
    fi 32 (.pick (.t 29) (.t 31) (.c (.bool false)))])
   (.ite (.t 32)
   (.seq (.reg [] [fi 33 (.mv (.t 6)),
    fi 4 (.mv (.c (.ptr none))),
    fi 5 (.mv (.t 33))])
   .ret)
   .skip)))
   r_wal_Open_1)
def b_wal_Open : Cd := (.seq (.reg [] [fi 4 (.mv (.c (.ptr none))),
    fi 5 (.mv (.c (.int .i64 0)))])
   (.seq (.seq (.reg [] [fi 13 (.mv (.t 0)),
    fi 14 (.eq false .ptr (.t 13) (.c (.ptr none)))])
   (.ite (.t 14)
   (.seq (.reg [] [fi 4 (.mv (.c (.ptr none))),
    fi 5 (.mv (.c (.int .i64 8)))])
   .ret)
   .skip))
   (.seq (.seq (.reg [] [fi 15 (.mv (.t 1)),
    ei 16 (.call 34 [(.t 15)]),
    fi 17 (.un .not (.t 16)),
    fi 18 (.mv (.t 17)),
    .run ⟨(some 19), (some (18, false)), .f (.mv (.t 1))⟩,
    .run ⟨(some 20), (some (18, false)), .f (.len .str (.t 19))⟩,
    .run ⟨(some 21), (some (18, false)), .f (.bin .gtr (.t 20) (.c (.int .i64 28)))⟩,
    fi 22 (.pick (.t 18) (.c (.bool true)) (.t 21))])
   (.ite (.t 22)
   (.seq (.reg [] [fi 4 (.mv (.c (.ptr none))),
    fi 5 (.mv (.c (.int .i64 1)))])
   .ret)
   .skip))
   r_wal_Open_2)))
theorem k_wal_Open : chkFn Tryz.prog n_wal_Open ⟨b_wal_Open, [.tmp 4, .tmp 5], 68⟩ = true := by kernel_rfl
/-- fascine/wal.Scan -/
abbrev n_wal_Scan : Nat := 37
def l_wal_Scan_0 : Cd := (.blk 1 (.seq (.reg [] [fi 10 (.mv (.t 0)),
    fi 11 (.mv (.t 5)),
    ei 12 (.call 57 [(.t 10), (.t 11)]),
    fi 9 (.mv (.t 12)),
    fi 13 (.extract (.t 9) 0),
    fi 14 (.extract (.t 9) 1),
    fi 15 (.extract (.t 9) 2),
    fi 6 (.mv (.t 13)),
    fi 7 (.mv (.t 14)),
    fi 8 (.mv (.t 15))])
   (.seq (.seq (.reg [] [fi 16 (.mv (.t 8)),
    fi 17 (.bin .neq (.t 16) (.c (.int .i64 0)))])
   (.ite (.t 17)
   (.seq (.reg [] [fi 18 (.mv (.t 4)),
    fi 19 (.mv (.t 5)),
    fi 2 (.mv (.t 18)),
    fi 3 (.mv (.t 19))])
   .ret)
   .skip))
   (.reg [] [fi 20 (.mv (.t 4)),
    fi 21 (.mv (.t 6)),
    ei 22 (.buildSlice 1 1 0 [(.sl [] 0 1 .nil)] [(0, 1, (.t 21))]),
    ei 23 (.append 1 24 false (.t 20) (.t 22)),
    fi 24 (.mv (.t 7)),
    fi 4 (.mv (.t 23)),
    fi 5 (.mv (.t 24))]))))
def b_wal_Scan : Cd := (.seq (.reg [] [fi 2 (.mv (.c (.sl [] 0 1 .nil))),
    fi 3 (.mv (.c (.int .i64 0)))])
   (.seq (.reg [] [fi 4 (.mv (.c (.sl [] 0 1 .nil)))])
   (.seq (.reg [] [fi 5 (.mv (.c (.int .i64 0)))])
   (.blk 0 (.loop l_wal_Scan_0)))))
theorem k_wal_Scan : chkFn Tryz.prog n_wal_Scan ⟨b_wal_Scan, [.tmp 2, .tmp 3], 25⟩ = true := by kernel_rfl
end Go.VM
