/-
  The codes of functions, as the value machine has them, and that they stand for the model's (printed by a program, wip/gen).
-/
import Derived.Test.YtegaflmefmlpgaaGreatDoorVmStr
import Derived.Test.YtegaflmefmlpgaaGreatDoorProg
import Derived.KernelRfl
set_option linter.unusedVariables false
set_option maxRecDepth 100000
namespace Go.VM
open Go Go.Proofs

theorem mixed : Tryz.prog.follows .mixedOrders = true := by kernel_rfl
/-- (*fascine/disk.Disk).Append -/
abbrev n_disk_Disk_Append : Nat := 52
def b_disk_Disk_Append : Cd := (.seq (.reg [] [fi 6 (.mv (.c (.int .i64 0)))])
   (.seq (.reg [] [fi 7 (.mv (.t 0)),
    fi 8 (.mv (.t 1)),
    fi 9 (.mv (.t 2)),
    ei 10 (.call 70 [(.t 7), (.t 8), (.t 9), (.c (.bool false))]),
    fi 6 (.mv (.t 10))])
   .ret))
theorem k_disk_Disk_Append : chkFn Tryz.prog n_disk_Disk_Append ⟨b_disk_Disk_Append, [.tmp 6], 11⟩ = true := by kernel_rfl
/-- (*fascine/disk.Disk).Arm -/
abbrev n_disk_Disk_Arm : Nat := 11
def b_disk_Disk_Arm : Cd := (.seq (.reg [] [fi 4 (.mv (.c (.int .i64 0)))])
   (.seq (.seq (.reg [] [fi 5 (.mv (.t 0)),
    fi 6 (.eq false .ptr (.t 5) (.c (.ptr none)))])
   (.ite (.t 6)
   (.seq (.reg [] [fi 4 (.mv (.c (.int .i64 8)))])
   .ret)
   .skip))
   (.seq (.seq (.reg [] [fi 7 (.mv (.t 1)),
    fi 8 (.bin .lss (.t 7) (.c (.int .i64 0)))])
   (.ite (.t 8)
   (.seq (.reg [] [fi 4 (.mv (.c (.int .i64 1)))])
   .ret)
   .skip))
   (.seq (.reg [] [fi 9 (.mv (.t 0)),
    fi 10 (.mv (.t 1)),
    fi 11 (.nilCheck (.t 9)),
    fi 12 (.fieldAddr 4 (.t 11)),
    st (.store 1 (.t 12) (.t 10))])
   (.seq (.reg [] [fi 4 (.mv (.c (.int .i64 0)))])
   .ret)))))
theorem k_disk_Disk_Arm : chkFn Tryz.prog n_disk_Disk_Arm ⟨b_disk_Disk_Arm, [.tmp 4], 13⟩ = true := by kernel_rfl
/-- (*fascine/disk.Disk).Names -/
abbrev n_disk_Disk_Names : Nat := 21
def b_disk_Disk_Names : Cd := (.seq (.reg [] [fi 2 (.mv (.c (.sl [] 0 1 .nil)))])
   (.seq (.seq (.reg [] [fi 3 (.mv (.t 0)),
    fi 4 (.eq false .ptr (.t 3) (.c (.ptr none)))])
   (.ite (.t 4)
   (.seq (.reg [] [fi 2 (.mv (.c (.sl [] 0 1 .nil)))])
   .ret)
   .skip))
   (.seq (.reg [] [fi 5 (.mv (.t 0)),
    fi 6 (.nilCheck (.t 5)),
    fi 7 (.fieldAddr 0 (.t 6)),
    fi 8 (.load false 1 (.t 7)),
    ei 9 (.call 43 [(.t 8)]),
    ei 10 (.call 42 [(.t 9)]),
    fi 2 (.mv (.t 10))])
   .ret)))
theorem k_disk_Disk_Names : chkFn Tryz.prog n_disk_Disk_Names ⟨b_disk_Disk_Names, [.tmp 2], 11⟩ = true := by kernel_rfl
/-- (*fascine/disk.Disk).Put -/
abbrev n_disk_Disk_Put : Nat := 58
def b_disk_Disk_Put : Cd := (.seq (.reg [] [fi 6 (.mv (.c (.int .i64 0)))])
   (.seq (.reg [] [fi 7 (.mv (.t 0)),
    fi 8 (.mv (.t 1)),
    fi 9 (.mv (.t 2)),
    ei 10 (.call 70 [(.t 7), (.t 8), (.t 9), (.c (.bool true))]),
    fi 6 (.mv (.t 10))])
   .ret))
theorem k_disk_Disk_Put : chkFn Tryz.prog n_disk_Disk_Put ⟨b_disk_Disk_Put, [.tmp 6], 11⟩ = true := by kernel_rfl
/-- (*fascine/disk.Disk).Read -/
abbrev n_disk_Disk_Read : Nat := 36
def b_disk_Disk_Read : Cd := (.seq (.reg [] [fi 4 (.mv (.c (.sl [] 0 1 .nil))),
    fi 5 (.mv (.c (.int .i64 0)))])
   (.seq (.seq (.reg [] [fi 8 (.mv (.t 0)),
    fi 9 (.mv (.t 1)),
    ei 10 (.buildSlice 1 1 0 [(.str (mkS []))] [(0, 1, (.t 9))]),
    ei 11 (.call 56 [(.t 8), (.t 10)]),
    fi 6 (.mv (.t 11))])
   (.seq (.reg [] [fi 12 (.mv (.t 6)),
    fi 13 (.bin .neq (.t 12) (.c (.int .i64 0)))])
   (.ite (.t 13)
   (.seq (.reg [] [fi 14 (.mv (.t 6)),
    fi 4 (.mv (.c (.sl [] 0 1 .nil))),
    fi 5 (.mv (.t 14))])
   .ret)
   .skip)))
   (.seq (.seq (.reg [] [fi 15 (.mv (.t 0)),
    fi 16 (.nilCheck (.t 15)),
    fi 17 (.fieldAddr 5 (.t 16)),
    fi 18 (.load false 1 (.t 17))])
   (.ite (.t 18)
   (.seq (.reg [] [fi 4 (.mv (.c (.sl [] 0 1 .nil))),
    fi 5 (.mv (.c (.int .i64 10)))])
   .ret)
   .skip))
   (.seq (.reg [] [fi 19 (.mv (.t 0)),
    fi 20 (.nilCheck (.t 19)),
    fi 21 (.fieldAddr 0 (.t 20)),
    fi 22 (.load false 1 (.t 21)),
    fi 23 (.mv (.t 1)),
    fi 24 (.lookup .str false (.ptr none) (.t 22) (.t 23)),
    fi 7 (.mv (.t 24))])
   (.seq (.seq (.reg [] [fi 25 (.mv (.t 7)),
    fi 26 (.eq false .ptr (.t 25) (.c (.ptr none)))])
   (.ite (.t 26)
   (.seq (.reg [] [fi 4 (.mv (.c (.sl [] 0 1 .nil))),
    fi 5 (.mv (.c (.int .i64 8)))])
   .ret)
   .skip))
   (.seq (.reg [] [fi 27 (.mv (.t 7)),
    fi 28 (.nilCheck (.t 27)),
    fi 29 (.fieldAddr 0 (.t 28)),
    fi 30 (.load false 1 (.t 29)),
    ei 31 (.append 1 1 false (.c (.sl [] 0 1 .nil)) (.t 30)),
    fi 4 (.mv (.t 31)),
    fi 5 (.mv (.c (.int .i64 0)))])
   .ret))))))
theorem k_disk_Disk_Read : chkFn Tryz.prog n_disk_Disk_Read ⟨b_disk_Disk_Read, [.tmp 4, .tmp 5], 32⟩ = true := by kernel_rfl
def b_disk_Disk_Read_v1 : Cd := (.seq (.reg [] [fi 4 (.mv (.c (.sl [] 0 1 .nil))),
    fi 5 (.mv (.c (.int .i64 0)))])
   (.seq (.seq (.reg [] [fi 8 (.mv (.t 0)),
    fi 9 (.mv (.t 1)),
    ei 10 (.buildSlice 1 1 0 [(.str (mkS []))] [(0, 1, (.t 9))]),
    ei 11 (.call 56 [(.t 8), (.t 10)]),
    fi 6 (.mv (.t 11))])
   (.seq (.reg [] [fi 12 (.mv (.t 6)),
    fi 13 (.bin .neq (.t 12) (.c (.int .i64 0)))])
   (.ite (.t 13)
   (.seq (.reg [] [fi 14 (.mv (.t 6)),
    fi 4 (.mv (.c (.sl [] 0 1 .nil))),
    fi 5 (.mv (.t 14))])
   .ret)
   .skip)))
   (.seq (.seq (.reg [] [fi 15 (.mv (.t 0)),
    fi 16 (.nilCheck (.t 15)),
    fi 17 (.fieldAddr 5 (.t 16)),
    fi 18 (.load false 1 (.t 17))])
   (.ite (.t 18)
   (.seq (.reg [] [fi 4 (.mv (.c (.sl [] 0 1 .nil))),
    fi 5 (.mv (.c (.int .i64 10)))])
   .ret)
   .skip))
   (.seq (.reg [] [fi 19 (.mv (.t 0)),
    fi 20 (.nilCheck (.t 19)),
    fi 21 (.fieldAddr 0 (.t 20)),
    fi 22 (.load false 1 (.t 21)),
    fi 23 (.mv (.t 1)),
    fi 24 (.lookup .str false (.ptr none) (.t 22) (.t 23)),
    fi 7 (.mv (.t 24))])
   (.seq (.seq (.reg [] [fi 25 (.mv (.t 7)),
    fi 26 (.eq false .ptr (.t 25) (.c (.ptr none)))])
   (.ite (.t 26)
   (.seq (.reg [] [fi 4 (.mv (.c (.sl [] 0 1 .nil))),
    fi 5 (.mv (.c (.int .i64 8)))])
   .ret)
   .skip))
   (.seq (.reg [] [fi 27 (.mv (.t 7)),
    fi 28 (.nilCheck (.t 27)),
    fi 29 (.fieldAddr 0 (.t 28)),
    fi 30 (.load false 1 (.t 29)),
    ei 31 (.append 1 1 true (.c (.sl [] 0 1 .nil)) (.t 30)),
    fi 4 (.mv (.t 31)),
    fi 5 (.mv (.c (.int .i64 0)))])
   .ret))))))
theorem k_disk_Disk_Read_v1 : chkFn Tryz.prog n_disk_Disk_Read ⟨b_disk_Disk_Read_v1, [.tmp 4, .tmp 5], 32⟩ = true := by kernel_rfl
/-- (*fascine/disk.Disk).Remove -/
abbrev n_disk_Disk_Remove : Nat := 35
def b_disk_Disk_Remove : Cd := (.seq (.reg [] [ei 2 (.box (.t 0)),
    ei 3 (.box (.t 1)),
    fi 4 (.mv (.c (.int .i64 0)))])
   (.seq (.reg [] [fi 5 (.load false 1 (.t 2)),
    fi 6 (.load false 1 (.t 3)),
    fi 7 (.mkFunc 55 [] [(.t 2), (.t 3)]),
    ei 8 (.call 54 [(.t 5), (.t 6), (.t 7)]),
    fi 4 (.mv (.t 8))])
   .ret))
theorem k_disk_Disk_Remove : chkFn Tryz.prog n_disk_Disk_Remove ⟨b_disk_Disk_Remove, [.tmp 4], 9⟩ = true := by kernel_rfl
/-- (*fascine/disk.Disk).Remove$1 -/
abbrev n_disk_Disk_Remove_1 : Nat := 55
def b_disk_Disk_Remove_1 : Cd := (.seq (.reg [0, 1, 2, 3, 4, 5, 6, 7, 8, 9, 10, 11, 12] [fi 4 (.load false 1 (.t 1)),
    fi 5 (.nilCheck (.t 4)),
    fi 6 (.fieldAddr 2 (.t 5)),
    fi 7 (.load false 1 (.t 6)),
    fi 8 (.mv (.t 0)),
    fi 9 (.nilCheck (.t 8)),
    fi 10 (.fieldAddr 0 (.t 9)),
    fi 11 (.load false 1 (.t 10)),
    fi 12 (.len .sl (.t 11)),
    fi 13 (.bin .sub (.t 7) (.t 12)),
    fi 14 (.nilCheck (.t 4)),
    fi 15 (.fieldAddr 2 (.t 14)),
    st (.store 1 (.t 15) (.t 13))])
   (.reg [0, 1, 2, 3, 4, 5] [fi 16 (.load false 1 (.t 1)),
    fi 17 (.nilCheck (.t 16)),
    fi 18 (.fieldAddr 0 (.t 17)),
    fi 19 (.load false 1 (.t 18)),
    fi 20 (.load false 1 (.t 2)),
    st (.delete .str (.t 19) (.t 20))]))
theorem k_disk_Disk_Remove_1 : chkFn Tryz.prog n_disk_Disk_Remove_1 ⟨b_disk_Disk_Remove_1, [], 21⟩ = true := by kernel_rfl
/-- (*fascine/disk.Disk).Rename -/
abbrev n_disk_Disk_Rename : Nat := 59
def b_disk_Disk_Rename : Cd := (.seq (.reg [] [ei 3 (.box (.t 0)),
    ei 4 (.box (.t 1)),
    ei 5 (.box (.t 2)),
    fi 6 (.mv (.c (.int .i64 0)))])
   (.seq (.seq (.reg [] [fi 9 (.load false 1 (.t 3)),
    fi 10 (.load false 1 (.t 4)),
    fi 11 (.load false 1 (.t 5)),
    ei 12 (.buildSlice 2 1 0 [(.str (mkS [])), (.str (mkS []))] [(0, 1, (.t 10)), (1, 1, (.t 11))]),
    ei 13 (.call 56 [(.t 9), (.t 12)]),
    fi 7 (.mv (.t 13))])
   (.seq (.reg [] [fi 14 (.mv (.t 7)),
    fi 15 (.bin .neq (.t 14) (.c (.int .i64 0)))])
   (.ite (.t 15)
   (.seq (.reg [] [fi 16 (.mv (.t 7)),
    fi 6 (.mv (.t 16))])
   .ret)
   .skip)))
   (.seq (.seq (.reg [] [fi 17 (.load false 1 (.t 4)),
    fi 18 (.load false 1 (.t 5)),
    fi 19 (.bin .eql (.t 17) (.t 18))])
   (.ite (.t 19)
   (.seq (.reg [] [fi 6 (.mv (.c (.int .i64 1)))])
   .ret)
   .skip))
   (.seq (.seq (.reg [0, 1, 2, 3, 4, 5, 6] [fi 20 (.load false 1 (.t 3)),
    fi 21 (.nilCheck (.t 20)),
    fi 22 (.fieldAddr 0 (.t 21)),
    fi 23 (.load false 1 (.t 22)),
    fi 24 (.load false 1 (.t 4)),
    fi 25 (.lookup .str false (.ptr none) (.t 23) (.t 24)),
    fi 8 (.mv (.t 25))])
   (.seq (.reg [0, 1, 2, 3, 4, 5, 6, 7, 8, 9, 10, 11, 12, 13, 14, 15, 16, 17, 18, 19, 20] [fi 26 (.load false 1 (.t 3)),
    fi 27 (.nilCheck (.t 26)),
    fi 28 (.fieldAddr 5 (.t 27)),
    fi 29 (.load false 1 (.t 28)),
    fi 30 (.un .not (.t 29)),
    fi 31 (.mv (.t 30)),
    .run ⟨(some 32), (some (31, true)), .f (.mv (.t 8))⟩,
    .run ⟨(some 33), (some (31, true)), .f (.eq true .ptr (.t 32) (.c (.ptr none)))⟩,
    fi 34 (.pick (.t 31) (.t 33) (.c (.bool false))),
    fi 35 (.mv (.t 34)),
    .run ⟨(some 36), (some (35, true)), .f (.mv (.t 8))⟩,
    .run ⟨(some 37), (some (35, true)), .f (.nilCheck (.t 36))⟩,
    .run ⟨(some 38), (some (35, true)), .f (.fieldAddr 1 (.t 37))⟩,
    .run ⟨(some 39), (some (35, true)), .f (.load false 1 (.t 38))⟩,
    .run ⟨(some 40), (some (35, true)), .f (.mv (.t 8))⟩,
    .run ⟨(some 41), (some (35, true)), .f (.nilCheck (.t 40))⟩,
    .run ⟨(some 42), (some (35, true)), .f (.fieldAddr 0 (.t 41))⟩,
    .run ⟨(some 43), (some (35, true)), .f (.load false 1 (.t 42))⟩,
    .run ⟨(some 44), (some (35, true)), .f (.len .sl (.t 43))⟩,
    .run ⟨(some 45), (some (35, true)), .f (.bin .lss (.t 39) (.t 44))⟩,
    fi 46 (.pick (.t 35) (.t 45) (.c (.bool false)))])
   (.ite (.t 46)
   (.seq (.reg [] [fi 6 (.mv (.c (.int .i64 12)))])
   .ret)
   .skip)))
   (.seq (.reg [] [fi 47 (.load false 1 (.t 3)),
    fi 48 (.load false 1 (.t 4)),
    fi 49 (.mkFunc 73 [] [(.t 3), (.t 4), (.t 5)]),
    ei 50 (.call 54 [(.t 47), (.t 48), (.t 49)]),
    fi 6 (.mv (.t 50))])
   .ret)))))
theorem k_disk_Disk_Rename : chkFn Tryz.prog n_disk_Disk_Rename ⟨b_disk_Disk_Rename, [.tmp 6], 51⟩ = true := by kernel_rfl
/-- (*fascine/disk.Disk).Rename$1 -/
abbrev n_disk_Disk_Rename_1 : Nat := 73
def b_disk_Disk_Rename_1 : Cd := (.seq (.reg [0, 1, 2, 3, 4, 5] [fi 6 (.load false 1 (.t 1)),
    fi 7 (.nilCheck (.t 6)),
    fi 8 (.fieldAddr 0 (.t 7)),
    fi 9 (.load false 1 (.t 8)),
    fi 10 (.load false 1 (.t 2)),
    st (.delete .str (.t 9) (.t 10))])
   (.seq (.seq (.reg [0, 1, 2, 3, 4, 5, 6] [fi 11 (.load false 1 (.t 1)),
    fi 12 (.nilCheck (.t 11)),
    fi 13 (.fieldAddr 0 (.t 12)),
    fi 14 (.load false 1 (.t 13)),
    fi 15 (.load false 1 (.t 3)),
    fi 16 (.lookup .str false (.ptr none) (.t 14) (.t 15)),
    fi 5 (.mv (.t 16))])
   (.seq (.reg [] [fi 17 (.mv (.t 5)),
    fi 18 (.eq true .ptr (.t 17) (.c (.ptr none)))])
   (.ite (.t 18)
   (.reg [0, 1, 2, 3, 4, 5, 6, 7, 8, 9, 10, 11, 12] [fi 19 (.load false 1 (.t 1)),
    fi 20 (.nilCheck (.t 19)),
    fi 21 (.fieldAddr 2 (.t 20)),
    fi 22 (.load false 1 (.t 21)),
    fi 23 (.mv (.t 5)),
    fi 24 (.nilCheck (.t 23)),
    fi 25 (.fieldAddr 0 (.t 24)),
    fi 26 (.load false 1 (.t 25)),
    fi 27 (.len .sl (.t 26)),
    fi 28 (.bin .sub (.t 22) (.t 27)),
    fi 29 (.nilCheck (.t 19)),
    fi 30 (.fieldAddr 2 (.t 29)),
    st (.store 1 (.t 30) (.t 28))])
   .skip)))
   (.reg [0, 1, 2, 3, 4, 5, 6] [fi 31 (.load false 1 (.t 1)),
    fi 32 (.nilCheck (.t 31)),
    fi 33 (.fieldAddr 0 (.t 32)),
    fi 34 (.load false 1 (.t 33)),
    fi 35 (.load false 1 (.t 3)),
    fi 36 (.mv (.t 0)),
    st (.mapSet .str (.t 34) (.t 35) (.t 36))])))
theorem k_disk_Disk_Rename_1 : chkFn Tryz.prog n_disk_Disk_Rename_1 ⟨b_disk_Disk_Rename_1, [], 37⟩ = true := by kernel_rfl
/-- (*fascine/disk.Disk).Restart -/
abbrev n_disk_Disk_Restart : Nat := 8
def r_disk_Disk_Restart_0 : Cd := (.seq (.reg [0, 1, 2, 3, 4, 5, 6, 7, 8, 9, 10, 11, 12, 13, 14, 15, 16, 17, 18, 19] [fi 45 (.mv (.t 0)),
    fi 46 (.nilCheck (.t 45)),
    fi 47 (.fieldAddr 2 (.t 46)),
    fi 48 (.load false 1 (.t 47)),
    fi 49 (.mv (.t 7)),
    fi 50 (.nilCheck (.t 49)),
    fi 51 (.fieldAddr 0 (.t 50)),
    fi 52 (.load false 1 (.t 51)),
    fi 53 (.len .sl (.t 52)),
    fi 54 (.mv (.t 7)),
    fi 55 (.nilCheck (.t 54)),
    fi 56 (.fieldAddr 1 (.t 55)),
    fi 57 (.load false 1 (.t 56)),
    fi 58 (.bin .sub (.t 53) (.t 57)),
    fi 59 (.mv (.t 8)),
    fi 60 (.bin .sub (.t 58) (.t 59)),
    fi 61 (.bin .sub (.t 48) (.t 60)),
    fi 62 (.nilCheck (.t 45)),
    fi 63 (.fieldAddr 2 (.t 62)),
    st (.store 1 (.t 63) (.t 61))])
   (.seq (.reg [0, 1, 2, 3, 4, 5, 6, 7, 8, 9, 10, 11, 12, 13, 14, 15] [fi 64 (.mv (.t 7)),
    fi 65 (.mv (.t 7)),
    fi 66 (.nilCheck (.t 65)),
    fi 67 (.fieldAddr 0 (.t 66)),
    fi 68 (.load false 1 (.t 67)),
    fi 69 (.mv (.t 7)),
    fi 70 (.nilCheck (.t 69)),
    fi 71 (.fieldAddr 1 (.t 70)),
    fi 72 (.load false 1 (.t 71)),
    fi 73 (.mv (.t 8)),
    fi 74 (.bin .add (.t 72) (.t 73)),
    fi 75 (.slice 1 (.t 68) none (some (.t 74)) none),
    ei 76 (.append 1 1 false (.c (.sl [] 0 1 .nil)) (.t 75)),
    fi 77 (.nilCheck (.t 64)),
    fi 78 (.fieldAddr 0 (.t 77)),
    st (.store 1 (.t 78) (.t 76))])
   (.reg [] [fi 79 (.mv (.t 7)),
    fi 80 (.mv (.t 7)),
    fi 81 (.nilCheck (.t 80)),
    fi 82 (.fieldAddr 0 (.t 81)),
    fi 83 (.load false 1 (.t 82)),
    fi 84 (.len .sl (.t 83)),
    fi 85 (.nilCheck (.t 79)),
    fi 86 (.fieldAddr 1 (.t 85)),
    st (.store 1 (.t 86) (.t 84))])))
def k_disk_Disk_Restart_0 : Cd := (.seq (.reg [] [fi 16 (.mv (.t 14)),
    fi 17 (.indexAddr 1 (.t 12) (.t 14)),
    fi 18 (.load false 1 (.t 17)),
    fi 5 (.mv (.t 16)),
    fi 6 (.mv (.t 18))])
   (.seq (.reg [] [fi 19 (.mv (.t 0)),
    fi 20 (.nilCheck (.t 19)),
    fi 21 (.fieldAddr 0 (.t 20)),
    fi 22 (.load false 1 (.t 21)),
    fi 23 (.mv (.t 6)),
    fi 24 (.lookup .str false (.ptr none) (.t 22) (.t 23)),
    fi 7 (.mv (.t 24)),
    fi 8 (.mv (.c (.int .i64 0)))])
   (.seq (.seq (.reg [] [fi 25 (.mv (.t 5)),
    fi 26 (.mv (.t 1)),
    fi 27 (.len .sl (.t 26)),
    fi 28 (.bin .lss (.t 25) (.t 27))])
   (.ite (.t 28)
   (.reg [0, 1, 2, 3, 4, 5, 6, 7, 8, 9, 10, 11, 12, 13, 14, 15, 16] [fi 29 (.mv (.t 1)),
    fi 30 (.mv (.t 5)),
    fi 31 (.indexAddr 1 (.t 29) (.t 30)),
    fi 32 (.load false 1 (.t 31)),
    fi 33 (.mv (.t 7)),
    fi 34 (.nilCheck (.t 33)),
    fi 35 (.fieldAddr 0 (.t 34)),
    fi 36 (.load false 1 (.t 35)),
    fi 37 (.len .sl (.t 36)),
    fi 38 (.mv (.t 7)),
    fi 39 (.nilCheck (.t 38)),
    fi 40 (.fieldAddr 1 (.t 39)),
    fi 41 (.load false 1 (.t 40)),
    fi 42 (.bin .sub (.t 37) (.t 41)),
    fi 43 (.minmax false [(.t 32), (.t 42)]),
    fi 44 (.minmax true [(.c (.int .i64 0)), (.t 43)]),
    fi 8 (.mv (.t 44))])
   .skip))
   r_disk_Disk_Restart_0)))
def l_disk_Disk_Restart_0 : Cd := (.seq (.reg [] [fi 15 (.bin .lss (.t 14) (.t 13))])
   (.seq (.ite (.t 15)
   .skip
   (.exit 0))
   (.seq (.blk 1 k_disk_Disk_Restart_0)
   (.reg [] [fi 87 (.bin .add (.t 14) (.c (.int .i64 1))),
    fi 14 (.mv (.t 87))]))))
def s_disk_Disk_Restart_0 : Cd := (.seq (.reg [] [fi 88 (.mv (.t 0)),
    fi 89 (.mv (.t 0)),
    fi 90 (.nilCheck (.t 88)),
    fi 91 (.fieldAddr 5 (.t 90)),
    st (.store 1 (.t 91) (.c (.bool false))),
    fi 92 (.nilCheck (.t 89)),
    fi 93 (.fieldAddr 4 (.t 92)),
    st (.store 1 (.t 93) (.c (.int .i64 0)))])
   (.seq (.reg [] [fi 4 (.mv (.c (.int .i64 0)))])
   .ret))
def b_disk_Disk_Restart : Cd := (.seq (.reg [] [fi 4 (.mv (.c (.int .i64 0)))])
   (.seq (.seq (.reg [] [fi 9 (.mv (.t 0)),
    fi 10 (.eq false .ptr (.t 9) (.c (.ptr none)))])
   (.ite (.t 10)
   (.seq (.reg [] [fi 4 (.mv (.c (.int .i64 8)))])
   .ret)
   .skip))
   (.seq (.seq (.reg [] [fi 11 (.mv (.t 0)),
    ei 12 (.call 21 [(.t 11)]),
    fi 13 (.len .sl (.t 12)),
    fi 14 (.mv (.c (.int .i64 0)))])
   (.blk 0 (.loop l_disk_Disk_Restart_0)))
   s_disk_Disk_Restart_0)))
theorem k_disk_Disk_Restart : chkFn Tryz.prog n_disk_Disk_Restart ⟨b_disk_Disk_Restart, [.tmp 4], 94⟩ = true := by kernel_rfl
/-- (*fascine/disk.Disk).Sync -/
abbrev n_disk_Disk_Sync : Nat := 53
def b_disk_Disk_Sync : Cd := (.seq (.reg [] [fi 4 (.mv (.c (.int .i64 0)))])
   (.seq (.reg [] [fi 5 (.mv (.t 0)),
    fi 6 (.mv (.t 1)),
    ei 7 (.call 54 [(.t 5), (.t 6), (.c (.func 71 [] []))]),
    fi 4 (.mv (.t 7))])
   .ret))
theorem k_disk_Disk_Sync : chkFn Tryz.prog n_disk_Disk_Sync ⟨b_disk_Disk_Sync, [.tmp 4], 8⟩ = true := by kernel_rfl
/-- (*fascine/disk.Disk).Sync$1 -/
abbrev n_disk_Disk_Sync_1 : Nat := 71
def b_disk_Disk_Sync_1 : Cd := (.reg [] [fi 2 (.mv (.t 0)),
    fi 3 (.mv (.t 0)),
    fi 4 (.nilCheck (.t 3)),
    fi 5 (.fieldAddr 0 (.t 4)),
    fi 6 (.load false 1 (.t 5)),
    fi 7 (.len .sl (.t 6)),
    fi 8 (.nilCheck (.t 2)),
    fi 9 (.fieldAddr 1 (.t 8)),
    st (.store 1 (.t 9) (.t 7))])
theorem k_disk_Disk_Sync_1 : chkFn Tryz.prog n_disk_Disk_Sync_1 ⟨b_disk_Disk_Sync_1, [], 10⟩ = true := by kernel_rfl
/-- (*fascine/disk.Disk).begin -/
abbrev n_disk_Disk_begin : Nat := 72
def b_disk_Disk_begin : Cd := (.seq (.reg [] [fi 2 (.mv (.c (.bool false))),
    fi 3 (.mv (.c (.int .i64 0)))])
   (.seq (.seq (.reg [] [fi 4 (.mv (.t 0)),
    fi 5 (.nilCheck (.t 4)),
    fi 6 (.fieldAddr 5 (.t 5)),
    fi 7 (.load false 1 (.t 6))])
   (.ite (.t 7)
   (.seq (.reg [] [fi 2 (.mv (.c (.bool false))),
    fi 3 (.mv (.c (.int .i64 10)))])
   .ret)
   .skip))
   (.seq (.reg [] [fi 8 (.mv (.t 0)),
    fi 9 (.nilCheck (.t 8)),
    fi 10 (.fieldAddr 3 (.t 9)),
    fi 11 (.load false 1 (.t 10)),
    fi 12 (.bin .add (.t 11) (.c (.int .i64 1))),
    fi 13 (.nilCheck (.t 8)),
    fi 14 (.fieldAddr 3 (.t 13)),
    st (.store 1 (.t 14) (.t 12))])
   (.seq (.seq (.reg [] [fi 15 (.mv (.t 0)),
    fi 16 (.nilCheck (.t 15)),
    fi 17 (.fieldAddr 4 (.t 16)),
    fi 18 (.load false 1 (.t 17)),
    fi 19 (.bin .gtr (.t 18) (.c (.int .i64 0)))])
   (.ite (.t 19)
   (.seq (.reg [] [fi 20 (.mv (.t 0)),
    fi 21 (.nilCheck (.t 20)),
    fi 22 (.fieldAddr 4 (.t 21)),
    fi 23 (.load false 1 (.t 22)),
    fi 24 (.bin .sub (.t 23) (.c (.int .i64 1))),
    fi 25 (.nilCheck (.t 20)),
    fi 26 (.fieldAddr 4 (.t 25)),
    st (.store 1 (.t 26) (.t 24))])
   (.reg [] [fi 27 (.mv (.t 0)),
    fi 28 (.mv (.t 0)),
    fi 29 (.nilCheck (.t 28)),
    fi 30 (.fieldAddr 4 (.t 29)),
    fi 31 (.load false 1 (.t 30)),
    fi 32 (.bin .eql (.t 31) (.c (.int .i64 0))),
    fi 33 (.nilCheck (.t 27)),
    fi 34 (.fieldAddr 5 (.t 33)),
    st (.store 1 (.t 34) (.t 32))]))
   .skip))
   (.seq (.reg [] [fi 35 (.mv (.t 0)),
    fi 36 (.nilCheck (.t 35)),
    fi 37 (.fieldAddr 5 (.t 36)),
    fi 38 (.load false 1 (.t 37)),
    fi 2 (.mv (.t 38)),
    fi 3 (.mv (.c (.int .i64 0)))])
   .ret)))))
theorem k_disk_Disk_begin : chkFn Tryz.prog n_disk_Disk_begin ⟨b_disk_Disk_begin, [.tmp 2, .tmp 3], 39⟩ = true := by kernel_rfl
/-- (*fascine/disk.Disk).change -/
abbrev n_disk_Disk_change : Nat := 54
def b_disk_Disk_change : Cd := (.seq (.reg [] [fi 6 (.mv (.c (.int .i64 0)))])
   (.seq (.seq (.reg [] [fi 11 (.mv (.t 0)),
    fi 12 (.mv (.t 1)),
    ei 13 (.buildSlice 1 1 0 [(.str (mkS []))] [(0, 1, (.t 12))]),
    ei 14 (.call 56 [(.t 11), (.t 13)]),
    fi 7 (.mv (.t 14))])
   (.seq (.reg [] [fi 15 (.mv (.t 7)),
    fi 16 (.bin .neq (.t 15) (.c (.int .i64 0)))])
   (.ite (.t 16)
   (.seq (.reg [] [fi 17 (.mv (.t 7)),
    fi 6 (.mv (.t 17))])
   .ret)
   .skip)))
   (.seq (.seq (.reg [] [fi 18 (.mv (.t 0)),
    fi 19 (.nilCheck (.t 18)),
    fi 20 (.fieldAddr 5 (.t 19)),
    fi 21 (.load false 1 (.t 20))])
   (.ite (.t 21)
   (.seq (.reg [] [fi 6 (.mv (.c (.int .i64 10)))])
   .ret)
   .skip))
   (.seq (.reg [] [fi 22 (.mv (.t 0)),
    fi 23 (.nilCheck (.t 22)),
    fi 24 (.fieldAddr 0 (.t 23)),
    fi 25 (.load false 1 (.t 24)),
    fi 26 (.mv (.t 1)),
    fi 27 (.lookup .str false (.ptr none) (.t 25) (.t 26)),
    fi 8 (.mv (.t 27))])
   (.seq (.seq (.reg [] [fi 28 (.mv (.t 8)),
    fi 29 (.eq false .ptr (.t 28) (.c (.ptr none)))])
   (.ite (.t 29)
   (.seq (.reg [] [fi 6 (.mv (.c (.int .i64 8)))])
   .ret)
   .skip))
   (.seq (.seq (.reg [] [fi 31 (.mv (.t 0)),
    ei 32 (.call 72 [(.t 31)]),
    fi 30 (.mv (.t 32)),
    fi 33 (.extract (.t 30) 0),
    fi 34 (.extract (.t 30) 1),
    fi 9 (.mv (.t 33)),
    fi 10 (.mv (.t 34))])
   (.seq (.reg [] [fi 35 (.mv (.t 9))])
   (.ite (.t 35)
   (.seq (.reg [] [fi 6 (.mv (.c (.int .i64 10)))])
   .ret)
   .skip)))
   (.seq (.reg [] [fi 36 (.mv (.t 2)),
    fi 37 (.mv (.t 8)),
    ei 38 (.callV (.t 36) [(.t 37)])])
   (.seq (.reg [] [fi 6 (.mv (.c (.int .i64 0)))])
   .ret))))))))
theorem k_disk_Disk_change : chkFn Tryz.prog n_disk_Disk_change ⟨b_disk_Disk_change, [.tmp 6], 39⟩ = true := by kernel_rfl
/-- (*fascine/disk.Disk).grow -/
abbrev n_disk_Disk_grow : Nat := 70
def k_disk_Disk_grow_0 : Cd := (.seq (.reg [] [fi 27 (.mv (.t 0)),
    fi 28 (.nilCheck (.t 27)),
    fi 29 (.fieldAddr 5 (.t 28)),
    fi 30 (.load false 1 (.t 29)),
    fi 26 (.mv (.t 30))])
   (.ite (.t 26)
   (.seq (.reg [] [fi 8 (.mv (.c (.int .i64 10)))])
   .ret)
   (.seq (.reg [] [fi 32 (.mv (.t 3)),
    fi 33 (.mv (.t 32)),
    .run ⟨(some 34), (some (33, true)), .f (.mv (.t 10))⟩,
    .run ⟨(some 35), (some (33, true)), .f (.eq true .ptr (.t 34) (.c (.ptr none)))⟩,
    fi 36 (.pick (.t 33) (.t 35) (.c (.bool false))),
    fi 31 (.mv (.t 36))])
   (.ite (.t 31)
   (.seq (.reg [] [fi 8 (.mv (.c (.int .i64 9)))])
   .ret)
   (.seq (.reg [0, 1, 2, 3, 4, 5, 6, 7, 8, 9, 10, 11, 12] [fi 38 (.mv (.t 2)),
    fi 39 (.len .sl (.t 38)),
    fi 40 (.mv (.t 0)),
    fi 41 (.nilCheck (.t 40)),
    fi 42 (.fieldAddr 1 (.t 41)),
    fi 43 (.load false 1 (.t 42)),
    fi 44 (.mv (.t 0)),
    fi 45 (.nilCheck (.t 44)),
    fi 46 (.fieldAddr 2 (.t 45)),
    fi 47 (.load false 1 (.t 46)),
    fi 48 (.bin .sub (.t 43) (.t 47)),
    fi 49 (.bin .gtr (.t 39) (.t 48)),
    fi 37 (.mv (.t 49))])
   (.ite (.t 37)
   (.seq (.reg [] [fi 8 (.mv (.c (.int .i64 11)))])
   .ret)
   .skip))))))
def s_disk_Disk_grow_0 : Cd := (.seq (.reg [] [fi 51 (.mv (.t 0)),
    ei 52 (.call 72 [(.t 51)]),
    fi 50 (.mv (.t 52)),
    fi 53 (.extract (.t 50) 0),
    fi 54 (.extract (.t 50) 1),
    fi 11 (.mv (.t 53)),
    fi 12 (.mv (.t 54))])
   (.seq (.seq (.reg [] [fi 55 (.mv (.t 12)),
    fi 56 (.bin .neq (.t 55) (.c (.int .i64 0)))])
   (.ite (.t 56)
   (.seq (.reg [] [fi 57 (.mv (.t 12)),
    fi 8 (.mv (.t 57))])
   .ret)
   .skip))
   (.seq (.seq (.reg [] [fi 58 (.mv (.t 10)),
    fi 59 (.eq false .ptr (.t 58) (.c (.ptr none)))])
   (.ite (.t 59)
   (.seq (.reg [] [fi 60 (.build [(.sl [] 0 1 .nil), (.int .i64 0)] []),
    ei 61 (.box (.t 60)),
    fi 10 (.mv (.t 61))])
   (.reg [] [fi 62 (.mv (.t 0)),
    fi 63 (.nilCheck (.t 62)),
    fi 64 (.fieldAddr 0 (.t 63)),
    fi 65 (.load false 1 (.t 64)),
    fi 66 (.mv (.t 1)),
    fi 67 (.mv (.t 10)),
    st (.mapSet .str (.t 65) (.t 66) (.t 67))]))
   .skip))
   (.seq (.reg [] [fi 68 (.mv (.t 10)),
    fi 69 (.mv (.t 10)),
    fi 70 (.nilCheck (.t 69)),
    fi 71 (.fieldAddr 0 (.t 70)),
    fi 72 (.load false 1 (.t 71)),
    fi 73 (.mv (.t 2)),
    ei 74 (.append 1 1 false (.t 72) (.t 73)),
    fi 75 (.nilCheck (.t 68)),
    fi 76 (.fieldAddr 0 (.t 75)),
    st (.store 1 (.t 76) (.t 74))])
   (.seq (.reg [] [fi 77 (.mv (.t 0)),
    fi 78 (.nilCheck (.t 77)),
    fi 79 (.fieldAddr 2 (.t 78)),
    fi 80 (.load false 1 (.t 79)),
    fi 81 (.mv (.t 2)),
    fi 82 (.len .sl (.t 81)),
    fi 83 (.bin .add (.t 80) (.t 82)),
    fi 84 (.nilCheck (.t 77)),
    fi 85 (.fieldAddr 2 (.t 84)),
    st (.store 1 (.t 85) (.t 83))])
   (.seq (.seq (.reg [] [fi 86 (.mv (.t 11))])
   (.ite (.t 86)
   (.seq (.reg [] [fi 8 (.mv (.c (.int .i64 10)))])
   .ret)
   .skip))
   (.seq (.reg [] [fi 8 (.mv (.c (.int .i64 0)))])
   .ret)))))))
def b_disk_Disk_grow : Cd := (.seq (.reg [] [fi 8 (.mv (.c (.int .i64 0)))])
   (.seq (.seq (.reg [] [fi 13 (.mv (.t 0)),
    fi 14 (.mv (.t 1)),
    ei 15 (.buildSlice 1 1 0 [(.str (mkS []))] [(0, 1, (.t 14))]),
    ei 16 (.call 56 [(.t 13), (.t 15)]),
    fi 9 (.mv (.t 16))])
   (.seq (.reg [] [fi 17 (.mv (.t 9)),
    fi 18 (.bin .neq (.t 17) (.c (.int .i64 0)))])
   (.ite (.t 18)
   (.seq (.reg [] [fi 19 (.mv (.t 9)),
    fi 8 (.mv (.t 19))])
   .ret)
   .skip)))
   (.seq (.reg [] [fi 20 (.mv (.t 0)),
    fi 21 (.nilCheck (.t 20)),
    fi 22 (.fieldAddr 0 (.t 21)),
    fi 23 (.load false 1 (.t 22)),
    fi 24 (.mv (.t 1)),
    fi 25 (.lookup .str false (.ptr none) (.t 23) (.t 24)),
    fi 10 (.mv (.t 25))])
   (.seq (.blk 0 k_disk_Disk_grow_0)
   s_disk_Disk_grow_0))))
theorem k_disk_Disk_grow : chkFn Tryz.prog n_disk_Disk_grow ⟨b_disk_Disk_grow, [.tmp 8], 87⟩ = true := by kernel_rfl
/-- (*fascine/disk.Disk).look -/
abbrev n_disk_Disk_look : Nat := 56
def l_disk_Disk_look_0 : Cd := (.seq (.reg [] [fi 12 (.bin .lss (.t 11) (.t 10))])
   (.seq (.ite (.t 12)
   .skip
   (.exit 0))
   (.seq (.blk 1 (.seq (.reg [] [fi 13 (.indexAddr 1 (.t 9) (.t 11)),
    fi 14 (.load false 1 (.t 13)),
    fi 6 (.mv (.t 14))])
   (.seq (.reg [] [fi 15 (.mv (.t 6)),
    ei 16 (.call 34 [(.t 15)]),
    fi 17 (.un .not (.t 16))])
   (.ite (.t 17)
   (.seq (.reg [] [fi 4 (.mv (.c (.int .i64 1)))])
   .ret)
   .skip))))
   (.reg [] [fi 18 (.bin .add (.t 11) (.c (.int .i64 1))),
    fi 11 (.mv (.t 18))]))))
def b_disk_Disk_look : Cd := (.seq (.reg [] [fi 4 (.mv (.c (.int .i64 0)))])
   (.seq (.seq (.reg [] [fi 7 (.mv (.t 0)),
    fi 8 (.eq false .ptr (.t 7) (.c (.ptr none)))])
   (.ite (.t 8)
   (.seq (.reg [] [fi 4 (.mv (.c (.int .i64 8)))])
   .ret)
   .skip))
   (.seq (.seq (.reg [] [fi 9 (.mv (.t 1)),
    fi 10 (.len .sl (.t 9)),
    fi 11 (.mv (.c (.int .i64 0)))])
   (.blk 0 (.loop l_disk_Disk_look_0)))
   (.seq (.reg [] [fi 4 (.mv (.c (.int .i64 0)))])
   .ret))))
theorem k_disk_Disk_look : chkFn Tryz.prog n_disk_Disk_look ⟨b_disk_Disk_look, [.tmp 4], 19⟩ = true := by kernel_rfl
/-- fascine/disk.Name -/
abbrev n_disk_Name : Nat := 34
def k_disk_Name_0 : Cd := (.seq (.reg [] [fi 8 (.mv (.t 6)),
    fi 3 (.mv (.t 8))])
   (.seq (.reg [] [fi 9 (.mv (.t 0)),
    fi 10 (.mv (.t 3)),
    fi 11 (.indexS (.t 9) (.t 10)),
    fi 12 (.bin .geq (.t 11) (.c (.int .u8 97))),
    fi 13 (.mv (.t 12)),
    .run ⟨(some 14), (some (13, true)), .f (.mv (.t 0))⟩,
    .run ⟨(some 15), (some (13, true)), .f (.mv (.t 3))⟩,
    .run ⟨(some 16), (some (13, true)), .f (.indexS (.t 14) (.t 15))⟩,
    .run ⟨(some 17), (some (13, true)), .f (.bin .leq (.t 16) (.c (.int .u8 122)))⟩,
    fi 18 (.pick (.t 13) (.t 17) (.c (.bool false))),
    fi 19 (.mv (.t 18)),
    .run ⟨(some 20), (some (19, false)), .f (.mv (.t 0))⟩,
    .run ⟨(some 21), (some (19, false)), .f (.mv (.t 3))⟩,
    .run ⟨(some 22), (some (19, false)), .f (.indexS (.t 20) (.t 21))⟩,
    .run ⟨(some 23), (some (19, false)), .f (.bin .geq (.t 22) (.c (.int .u8 48)))⟩,
    .run ⟨(some 24), (some (19, false)), .f (.mv (.t 23))⟩,
    .run ⟨(some 25), (some (24, true)), .f (.mv (.t 0))⟩,
    .run ⟨(some 26), (some (24, true)), .f (.mv (.t 3))⟩,
    .run ⟨(some 27), (some (24, true)), .f (.indexS (.t 25) (.t 26))⟩,
    .run ⟨(some 28), (some (24, true)), .f (.bin .leq (.t 27) (.c (.int .u8 57)))⟩,
    .run ⟨(some 29), (some (19, false)), .f (.pick (.t 24) (.t 28) (.c (.bool false)))⟩,
    fi 30 (.pick (.t 19) (.c (.bool true)) (.t 29)),
    fi 31 (.mv (.t 30)),
    .run ⟨(some 32), (some (31, false)), .f (.mv (.t 0))⟩,
    .run ⟨(some 33), (some (31, false)), .f (.mv (.t 3))⟩,
    .run ⟨(some 34), (some (31, false)), .f (.indexS (.t 32) (.t 33))⟩,
    .run ⟨(some 35), (some (31, false)), .f (.bin .eql (.t 34) (.c (.int .u8 46)))⟩,
    fi 36 (.pick (.t 31) (.c (.bool true)) (.t 35)),
    fi 37 (.mv (.t 36)),
    .run ⟨(some 38), (some (37, false)), .f (.mv (.t 0))⟩,
    .run ⟨(some 39), (some (37, false)), .f (.mv (.t 3))⟩,
    .run ⟨(some 40), (some (37, false)), .f (.indexS (.t 38) (.t 39))⟩,
    .run ⟨(some 41), (some (37, false)), .f (.bin .eql (.t 40) (.c (.int .u8 45)))⟩,
    fi 42 (.pick (.t 37) (.c (.bool true)) (.t 41)),
    fi 43 (.un .not (.t 42))])
   (.ite (.t 43)
   (.seq (.reg [] [fi 2 (.mv (.c (.bool false)))])
   .ret)
   .skip)))
def l_disk_Name_0 : Cd := (.seq (.reg [] [fi 7 (.bin .lss (.t 6) (.t 5))])
   (.seq (.ite (.t 7)
   .skip
   (.exit 0))
   (.seq (.blk 1 k_disk_Name_0)
   (.reg [] [fi 44 (.bin .add (.t 6) (.c (.int .i64 1))),
    fi 6 (.mv (.t 44))]))))
def s_disk_Name_0 : Cd := (.seq (.reg [] [fi 45 (.mv (.t 0)),
    fi 46 (.len .str (.t 45)),
    fi 47 (.bin .geq (.t 46) (.c (.int .i64 1))),
    fi 48 (.mv (.t 47)),
    .run ⟨(some 49), (some (48, true)), .f (.mv (.t 0))⟩,
    .run ⟨(some 50), (some (48, true)), .f (.len .str (.t 49))⟩,
    .run ⟨(some 51), (some (48, true)), .f (.bin .leq (.t 50) (.c (.int .i64 32)))⟩,
    fi 52 (.pick (.t 48) (.t 51) (.c (.bool false))),
    fi 2 (.mv (.t 52))])
   .ret)
def b_disk_Name : Cd := (.seq (.reg [] [fi 2 (.mv (.c (.bool false)))])
   (.seq (.seq (.reg [] [fi 4 (.mv (.t 0)),
    fi 5 (.len .str (.t 4)),
    fi 6 (.mv (.c (.int .i64 0)))])
   (.blk 0 (.loop l_disk_Name_0)))
   s_disk_Name_0))
theorem k_disk_Name : chkFn Tryz.prog n_disk_Name ⟨b_disk_Name, [.tmp 2], 53⟩ = true := by kernel_rfl
/-- fascine/disk.New -/
abbrev n_disk_New : Nat := 6
def b_disk_New : Cd := (.seq (.reg [] [fi 2 (.mv (.c (.ptr none))),
    fi 3 (.mv (.c (.int .i64 0)))])
   (.seq (.seq (.reg [] [fi 4 (.mv (.t 0)),
    fi 5 (.bin .lss (.t 4) (.c (.int .i64 0))),
    fi 6 (.mv (.t 5)),
    .run ⟨(some 7), (some (6, false)), .f (.mv (.t 0))⟩,
    .run ⟨(some 8), (some (6, false)), .f (.bin .gtr (.t 7) (.c (.int .i64 67108864)))⟩,
    fi 9 (.pick (.t 6) (.c (.bool true)) (.t 8))])
   (.ite (.t 9)
   (.seq (.reg [] [fi 2 (.mv (.c (.ptr none))),
    fi 3 (.mv (.c (.int .i64 1)))])
   .ret)
   .skip))
   (.seq (.reg [] [ei 10 (.makeMap),
    fi 11 (.mv (.t 0)),
    fi 12 (.build [(.map none), (.int .i64 0), (.int .i64 0), (.int .i64 0), (.int .i64 0), (.bool false)] [(0, 1, (.t 10)), (1, 1, (.t 11))]),
    ei 13 (.box (.t 12)),
    fi 2 (.mv (.t 13)),
    fi 3 (.mv (.c (.int .i64 0)))])
   .ret)))
theorem k_disk_New : chkFn Tryz.prog n_disk_New ⟨b_disk_New, [.tmp 2, .tmp 3], 14⟩ = true := by kernel_rfl
/-- maps.Keys[map[string]*fascine/disk.file,string,*fascine/disk.file] -/
abbrev n_maps_Keys_map_string_disk_file_string_disk_file : Nat := 43
def b_maps_Keys_map_string_disk_file_string_disk_file : Cd := (.seq (.reg [] [ei 1 (.box (.t 0)),
    fi 2 (.mv (.c .nilFunc))])
   (.seq (.reg [] [fi 3 (.mkFunc 67 [] [(.t 1)]),
    fi 2 (.mv (.t 3))])
   .ret))
theorem k_maps_Keys_map_string_disk_file_string_disk_file : chkFn Tryz.prog n_maps_Keys_map_string_disk_file_string_disk_file ⟨b_maps_Keys_map_string_disk_file_string_disk_file, [.tmp 2], 4⟩ = true := by kernel_rfl
/-- slices.Sorted[string] -/
abbrev n_slices_Sorted_string : Nat := 42
def b_slices_Sorted_string : Cd := (.seq (.reg [] [fi 2 (.mv (.c (.sl [] 0 1 .nil)))])
   (.seq (.reg [] [fi 4 (.mv (.t 0)),
    ei 5 (.call 65 [(.t 4)]),
    fi 3 (.mv (.t 5))])
   (.seq (.reg [] [fi 6 (.mv (.t 3)),
    ei 7 (.call 66 [(.t 6)])])
   (.seq (.reg [] [fi 8 (.mv (.t 3)),
    fi 2 (.mv (.t 8))])
   .ret))))
theorem k_slices_Sorted_string : chkFn Tryz.prog n_slices_Sorted_string ⟨b_slices_Sorted_string, [.tmp 2], 9⟩ = true := by kernel_rfl
end Go.VM
