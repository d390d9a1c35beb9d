/-
  The codes of functions, as the value machine has them, and that they stand for the model's (printed by a program, wip/gen).
-/
import Derived.Test.YtegaflmefmlpgaaDoorVmStr
import Derived.Test.YtegaflmefmlpgaaDoorProg
import Derived.KernelRfl
set_option linter.unusedVariables false
set_option maxRecDepth 100000
namespace Go.VM
open Go Go.Proofs

theorem mixed : Tryd.prog.follows .mixedOrders = true := by kernel_rfl
/-- (*fascine/disk.Disk).Append -/
abbrev n_disk_Disk_Append : Nat := 76
def b_disk_Disk_Append : Cd := (.seq (.reg [] [.run ⟨(some 6), none, .f (.mv (.c (.int .i64 0)))⟩])
   (.seq (.reg [] [.run ⟨(some 7), none, .f (.mv (.t 0))⟩,
    .run ⟨(some 8), none, .f (.mv (.t 1))⟩,
    .run ⟨(some 9), none, .f (.mv (.t 2))⟩,
    .run ⟨(some 10), none, .e (.call 99 [(.t 7), (.t 8), (.t 9), (.c (.bool false))])⟩,
    .run ⟨(some 6), none, .f (.mv (.t 10))⟩])
   .ret))
theorem k_disk_Disk_Append : chkFn Tryd.prog n_disk_Disk_Append ⟨b_disk_Disk_Append, [.tmp 6], 11⟩ = true := by kernel_rfl
/-- (*fascine/disk.Disk).Names -/
abbrev n_disk_Disk_Names : Nat := 66
def b_disk_Disk_Names : Cd := (.seq (.reg [] [.run ⟨(some 2), none, .f (.mv (.c (.sl [] 0 1 .nil)))⟩])
   (.seq (.seq (.reg [] [.run ⟨(some 3), none, .f (.mv (.t 0))⟩,
    .run ⟨(some 4), none, .f (.eq false .ptr (.t 3) (.c (.ptr none)))⟩])
   (.ite (.t 4)
   (.seq (.reg [] [.run ⟨(some 2), none, .f (.mv (.c (.sl [] 0 1 .nil)))⟩])
   .ret)
   .skip))
   (.seq (.reg [] [.run ⟨(some 5), none, .f (.mv (.t 0))⟩,
    .run ⟨(some 6), none, .f (.nilCheck (.t 5))⟩,
    .run ⟨(some 7), none, .f (.fieldAddr 0 (.t 6))⟩,
    .run ⟨(some 8), none, .f (.load false 1 (.t 7))⟩,
    .run ⟨(some 9), none, .e (.call 79 [(.t 8)])⟩,
    .run ⟨(some 10), none, .e (.call 78 [(.t 9)])⟩,
    .run ⟨(some 2), none, .f (.mv (.t 10))⟩])
   .ret)))
theorem k_disk_Disk_Names : chkFn Tryd.prog n_disk_Disk_Names ⟨b_disk_Disk_Names, [.tmp 2], 11⟩ = true := by kernel_rfl
/-- (*fascine/disk.Disk).Put -/
abbrev n_disk_Disk_Put : Nat := 95
def b_disk_Disk_Put : Cd := (.seq (.reg [] [.run ⟨(some 6), none, .f (.mv (.c (.int .i64 0)))⟩])
   (.seq (.reg [] [.run ⟨(some 7), none, .f (.mv (.t 0))⟩,
    .run ⟨(some 8), none, .f (.mv (.t 1))⟩,
    .run ⟨(some 9), none, .f (.mv (.t 2))⟩,
    .run ⟨(some 10), none, .e (.call 99 [(.t 7), (.t 8), (.t 9), (.c (.bool true))])⟩,
    .run ⟨(some 6), none, .f (.mv (.t 10))⟩])
   .ret))
theorem k_disk_Disk_Put : chkFn Tryd.prog n_disk_Disk_Put ⟨b_disk_Disk_Put, [.tmp 6], 11⟩ = true := by kernel_rfl
/-- (*fascine/disk.Disk).Read -/
abbrev n_disk_Disk_Read : Nat := 72
def b_disk_Disk_Read : Cd := (.seq (.reg [] [.run ⟨(some 4), none, .f (.mv (.c (.sl [] 0 1 .nil)))⟩,
    .run ⟨(some 5), none, .f (.mv (.c (.int .i64 0)))⟩])
   (.seq (.seq (.reg [] [.run ⟨(some 8), none, .f (.mv (.t 0))⟩,
    .run ⟨(some 9), none, .f (.mv (.t 1))⟩,
    .run ⟨(some 10), none, .e (.buildSlice 1 1 0 [(.str (mkS []))] [(0, 1, (.t 9))])⟩,
    .run ⟨(some 11), none, .e (.call 93 [(.t 8), (.t 10)])⟩,
    .run ⟨(some 6), none, .f (.mv (.t 11))⟩])
   (.seq (.reg [] [.run ⟨(some 12), none, .f (.mv (.t 6))⟩,
    .run ⟨(some 13), none, .f (.bin .neq (.t 12) (.c (.int .i64 0)))⟩])
   (.ite (.t 13)
   (.seq (.reg [] [.run ⟨(some 14), none, .f (.mv (.t 6))⟩,
    .run ⟨(some 4), none, .f (.mv (.c (.sl [] 0 1 .nil)))⟩,
    .run ⟨(some 5), none, .f (.mv (.t 14))⟩])
   .ret)
   .skip)))
   (.seq (.seq (.reg [] [.run ⟨(some 15), none, .f (.mv (.t 0))⟩,
    .run ⟨(some 16), none, .f (.nilCheck (.t 15))⟩,
    .run ⟨(some 17), none, .f (.fieldAddr 5 (.t 16))⟩,
    .run ⟨(some 18), none, .f (.load false 1 (.t 17))⟩])
   (.ite (.t 18)
   (.seq (.reg [] [.run ⟨(some 4), none, .f (.mv (.c (.sl [] 0 1 .nil)))⟩,
    .run ⟨(some 5), none, .f (.mv (.c (.int .i64 10)))⟩])
   .ret)
   .skip))
   (.seq (.reg [] [.run ⟨(some 19), none, .f (.mv (.t 0))⟩,
    .run ⟨(some 20), none, .f (.nilCheck (.t 19))⟩,
    .run ⟨(some 21), none, .f (.fieldAddr 0 (.t 20))⟩,
    .run ⟨(some 22), none, .f (.load false 1 (.t 21))⟩,
    .run ⟨(some 23), none, .f (.mv (.t 1))⟩,
    .run ⟨(some 24), none, .f (.lookup .str false (.ptr none) (.t 22) (.t 23))⟩,
    .run ⟨(some 7), none, .f (.mv (.t 24))⟩])
   (.seq (.seq (.reg [] [.run ⟨(some 25), none, .f (.mv (.t 7))⟩,
    .run ⟨(some 26), none, .f (.eq false .ptr (.t 25) (.c (.ptr none)))⟩])
   (.ite (.t 26)
   (.seq (.reg [] [.run ⟨(some 4), none, .f (.mv (.c (.sl [] 0 1 .nil)))⟩,
    .run ⟨(some 5), none, .f (.mv (.c (.int .i64 8)))⟩])
   .ret)
   .skip))
   (.seq (.reg [] [.run ⟨(some 27), none, .f (.mv (.t 7))⟩,
    .run ⟨(some 28), none, .f (.nilCheck (.t 27))⟩,
    .run ⟨(some 29), none, .f (.fieldAddr 0 (.t 28))⟩,
    .run ⟨(some 30), none, .f (.load false 1 (.t 29))⟩,
    .run ⟨(some 31), none, .e (.append 1 1 false (.c (.sl [] 0 1 .nil)) (.t 30))⟩,
    .run ⟨(some 4), none, .f (.mv (.t 31))⟩,
    .run ⟨(some 5), none, .f (.mv (.c (.int .i64 0)))⟩])
   .ret))))))
theorem k_disk_Disk_Read : chkFn Tryd.prog n_disk_Disk_Read ⟨b_disk_Disk_Read, [.tmp 4, .tmp 5], 32⟩ = true := by kernel_rfl
def b_disk_Disk_Read_v1 : Cd := (.seq (.reg [] [.run ⟨(some 4), none, .f (.mv (.c (.sl [] 0 1 .nil)))⟩,
    .run ⟨(some 5), none, .f (.mv (.c (.int .i64 0)))⟩])
   (.seq (.seq (.reg [] [.run ⟨(some 8), none, .f (.mv (.t 0))⟩,
    .run ⟨(some 9), none, .f (.mv (.t 1))⟩,
    .run ⟨(some 10), none, .e (.buildSlice 1 1 0 [(.str (mkS []))] [(0, 1, (.t 9))])⟩,
    .run ⟨(some 11), none, .e (.call 93 [(.t 8), (.t 10)])⟩,
    .run ⟨(some 6), none, .f (.mv (.t 11))⟩])
   (.seq (.reg [] [.run ⟨(some 12), none, .f (.mv (.t 6))⟩,
    .run ⟨(some 13), none, .f (.bin .neq (.t 12) (.c (.int .i64 0)))⟩])
   (.ite (.t 13)
   (.seq (.reg [] [.run ⟨(some 14), none, .f (.mv (.t 6))⟩,
    .run ⟨(some 4), none, .f (.mv (.c (.sl [] 0 1 .nil)))⟩,
    .run ⟨(some 5), none, .f (.mv (.t 14))⟩])
   .ret)
   .skip)))
   (.seq (.seq (.reg [] [.run ⟨(some 15), none, .f (.mv (.t 0))⟩,
    .run ⟨(some 16), none, .f (.nilCheck (.t 15))⟩,
    .run ⟨(some 17), none, .f (.fieldAddr 5 (.t 16))⟩,
    .run ⟨(some 18), none, .f (.load false 1 (.t 17))⟩])
   (.ite (.t 18)
   (.seq (.reg [] [.run ⟨(some 4), none, .f (.mv (.c (.sl [] 0 1 .nil)))⟩,
    .run ⟨(some 5), none, .f (.mv (.c (.int .i64 10)))⟩])
   .ret)
   .skip))
   (.seq (.reg [] [.run ⟨(some 19), none, .f (.mv (.t 0))⟩,
    .run ⟨(some 20), none, .f (.nilCheck (.t 19))⟩,
    .run ⟨(some 21), none, .f (.fieldAddr 0 (.t 20))⟩,
    .run ⟨(some 22), none, .f (.load false 1 (.t 21))⟩,
    .run ⟨(some 23), none, .f (.mv (.t 1))⟩,
    .run ⟨(some 24), none, .f (.lookup .str false (.ptr none) (.t 22) (.t 23))⟩,
    .run ⟨(some 7), none, .f (.mv (.t 24))⟩])
   (.seq (.seq (.reg [] [.run ⟨(some 25), none, .f (.mv (.t 7))⟩,
    .run ⟨(some 26), none, .f (.eq false .ptr (.t 25) (.c (.ptr none)))⟩])
   (.ite (.t 26)
   (.seq (.reg [] [.run ⟨(some 4), none, .f (.mv (.c (.sl [] 0 1 .nil)))⟩,
    .run ⟨(some 5), none, .f (.mv (.c (.int .i64 8)))⟩])
   .ret)
   .skip))
   (.seq (.reg [] [.run ⟨(some 27), none, .f (.mv (.t 7))⟩,
    .run ⟨(some 28), none, .f (.nilCheck (.t 27))⟩,
    .run ⟨(some 29), none, .f (.fieldAddr 0 (.t 28))⟩,
    .run ⟨(some 30), none, .f (.load false 1 (.t 29))⟩,
    .run ⟨(some 31), none, .e (.append 1 1 true (.c (.sl [] 0 1 .nil)) (.t 30))⟩,
    .run ⟨(some 4), none, .f (.mv (.t 31))⟩,
    .run ⟨(some 5), none, .f (.mv (.c (.int .i64 0)))⟩])
   .ret))))))
theorem k_disk_Disk_Read_v1 : chkFn Tryd.prog n_disk_Disk_Read ⟨b_disk_Disk_Read_v1, [.tmp 4, .tmp 5], 32⟩ = true := by kernel_rfl
/-- (*fascine/disk.Disk).Remove -/
abbrev n_disk_Disk_Remove : Nat := 71
def b_disk_Disk_Remove : Cd := (.seq (.reg [] [.run ⟨(some 2), none, .e (.box (.t 0))⟩,
    .run ⟨(some 3), none, .e (.box (.t 1))⟩,
    .run ⟨(some 4), none, .f (.mv (.c (.int .i64 0)))⟩])
   (.seq (.reg [] [.run ⟨(some 5), none, .f (.load false 1 (.t 2))⟩,
    .run ⟨(some 6), none, .f (.load false 1 (.t 3))⟩,
    .run ⟨(some 7), none, .f (.mkFunc 92 [] [(.t 2), (.t 3)])⟩,
    .run ⟨(some 8), none, .e (.call 91 [(.t 5), (.t 6), (.t 7)])⟩,
    .run ⟨(some 4), none, .f (.mv (.t 8))⟩])
   .ret))
theorem k_disk_Disk_Remove : chkFn Tryd.prog n_disk_Disk_Remove ⟨b_disk_Disk_Remove, [.tmp 4], 9⟩ = true := by kernel_rfl
/-- (*fascine/disk.Disk).Remove$1 -/
abbrev n_disk_Disk_Remove_1 : Nat := 92
def b_disk_Disk_Remove_1 : Cd := (.seq (.reg [0, 1, 2, 3, 4, 5, 6, 7, 8, 9, 10, 11, 12] [.run ⟨(some 4), none, .f (.load false 1 (.t 1))⟩,
    .run ⟨(some 5), none, .f (.nilCheck (.t 4))⟩,
    .run ⟨(some 6), none, .f (.fieldAddr 2 (.t 5))⟩,
    .run ⟨(some 7), none, .f (.load false 1 (.t 6))⟩,
    .run ⟨(some 8), none, .f (.mv (.t 0))⟩,
    .run ⟨(some 9), none, .f (.nilCheck (.t 8))⟩,
    .run ⟨(some 10), none, .f (.fieldAddr 0 (.t 9))⟩,
    .run ⟨(some 11), none, .f (.load false 1 (.t 10))⟩,
    .run ⟨(some 12), none, .f (.len .sl (.t 11))⟩,
    .run ⟨(some 13), none, .f (.bin .sub (.t 7) (.t 12))⟩,
    .run ⟨(some 14), none, .f (.nilCheck (.t 4))⟩,
    .run ⟨(some 15), none, .f (.fieldAddr 2 (.t 14))⟩,
    .run ⟨none, none, .e (.store 1 (.t 15) (.t 13))⟩])
   (.reg [0, 1, 2, 3, 4, 5] [.run ⟨(some 16), none, .f (.load false 1 (.t 1))⟩,
    .run ⟨(some 17), none, .f (.nilCheck (.t 16))⟩,
    .run ⟨(some 18), none, .f (.fieldAddr 0 (.t 17))⟩,
    .run ⟨(some 19), none, .f (.load false 1 (.t 18))⟩,
    .run ⟨(some 20), none, .f (.load false 1 (.t 2))⟩,
    .run ⟨none, none, .e (.delete .str (.t 19) (.t 20))⟩]))
theorem k_disk_Disk_Remove_1 : chkFn Tryd.prog n_disk_Disk_Remove_1 ⟨b_disk_Disk_Remove_1, [], 21⟩ = true := by kernel_rfl
/-- (*fascine/disk.Disk).Rename -/
abbrev n_disk_Disk_Rename : Nat := 96
def b_disk_Disk_Rename : Cd := (.seq (.reg [] [.run ⟨(some 3), none, .e (.box (.t 0))⟩,
    .run ⟨(some 4), none, .e (.box (.t 1))⟩,
    .run ⟨(some 5), none, .e (.box (.t 2))⟩,
    .run ⟨(some 6), none, .f (.mv (.c (.int .i64 0)))⟩])
   (.seq (.seq (.reg [] [.run ⟨(some 9), none, .f (.load false 1 (.t 3))⟩,
    .run ⟨(some 10), none, .f (.load false 1 (.t 4))⟩,
    .run ⟨(some 11), none, .f (.load false 1 (.t 5))⟩,
    .run ⟨(some 12), none, .e (.buildSlice 2 1 0 [(.str (mkS [])), (.str (mkS []))] [(0, 1, (.t 10)), (1, 1, (.t 11))])⟩,
    .run ⟨(some 13), none, .e (.call 93 [(.t 9), (.t 12)])⟩,
    .run ⟨(some 7), none, .f (.mv (.t 13))⟩])
   (.seq (.reg [] [.run ⟨(some 14), none, .f (.mv (.t 7))⟩,
    .run ⟨(some 15), none, .f (.bin .neq (.t 14) (.c (.int .i64 0)))⟩])
   (.ite (.t 15)
   (.seq (.reg [] [.run ⟨(some 16), none, .f (.mv (.t 7))⟩,
    .run ⟨(some 6), none, .f (.mv (.t 16))⟩])
   .ret)
   .skip)))
   (.seq (.seq (.reg [] [.run ⟨(some 17), none, .f (.load false 1 (.t 4))⟩,
    .run ⟨(some 18), none, .f (.load false 1 (.t 5))⟩,
    .run ⟨(some 19), none, .f (.bin .eql (.t 17) (.t 18))⟩])
   (.ite (.t 19)
   (.seq (.reg [] [.run ⟨(some 6), none, .f (.mv (.c (.int .i64 1)))⟩])
   .ret)
   .skip))
   (.seq (.seq (.reg [0, 1, 2, 3, 4, 5, 6] [.run ⟨(some 20), none, .f (.load false 1 (.t 3))⟩,
    .run ⟨(some 21), none, .f (.nilCheck (.t 20))⟩,
    .run ⟨(some 22), none, .f (.fieldAddr 0 (.t 21))⟩,
    .run ⟨(some 23), none, .f (.load false 1 (.t 22))⟩,
    .run ⟨(some 24), none, .f (.load false 1 (.t 4))⟩,
    .run ⟨(some 25), none, .f (.lookup .str false (.ptr none) (.t 23) (.t 24))⟩,
    .run ⟨(some 8), none, .f (.mv (.t 25))⟩])
   (.seq (.reg [0, 1, 2, 3, 4, 5, 6, 7, 8, 9, 10, 11, 12, 13, 14, 15, 16, 17, 18, 19, 20] [.run ⟨(some 26), none, .f (.load false 1 (.t 3))⟩,
    .run ⟨(some 27), none, .f (.nilCheck (.t 26))⟩,
    .run ⟨(some 28), none, .f (.fieldAddr 5 (.t 27))⟩,
    .run ⟨(some 29), none, .f (.load false 1 (.t 28))⟩,
    .run ⟨(some 30), none, .f (.un .not (.t 29))⟩,
    .run ⟨(some 31), none, .f (.mv (.t 30))⟩,
    .run ⟨(some 32), (some (31, true)), .f (.mv (.t 8))⟩,
    .run ⟨(some 33), (some (31, true)), .f (.eq true .ptr (.t 32) (.c (.ptr none)))⟩,
    .run ⟨(some 34), none, .f (.pick (.t 31) (.t 33) (.c (.bool false)))⟩,
    .run ⟨(some 35), none, .f (.mv (.t 34))⟩,
    .run ⟨(some 36), (some (35, true)), .f (.mv (.t 8))⟩,
    .run ⟨(some 37), (some (35, true)), .f (.nilCheck (.t 36))⟩,
    .run ⟨(some 38), (some (35, true)), .f (.fieldAddr 1 (.t 37))⟩,
    .run ⟨(some 39), (some (35, true)), .f (.load false 1 (.t 38))⟩,
    .run ⟨(some 40), (some (35, true)), .f (.mv (.t 8))⟩,
    .run ⟨(some 41), (some (35, true)), .f (.nilCheck (.t 40))⟩,
    .run ⟨(some 42), (some (35, true)), .f (.fieldAddr 0 (.t 41))⟩,
    .run ⟨(some 43), (some (35, true)), .f (.load false 1 (.t 42))⟩,
    .run ⟨(some 44), (some (35, true)), .f (.len .sl (.t 43))⟩,
    .run ⟨(some 45), (some (35, true)), .f (.bin .lss (.t 39) (.t 44))⟩,
    .run ⟨(some 46), none, .f (.pick (.t 35) (.t 45) (.c (.bool false)))⟩])
   (.ite (.t 46)
   (.seq (.reg [] [.run ⟨(some 6), none, .f (.mv (.c (.int .i64 12)))⟩])
   .ret)
   .skip)))
   (.seq (.reg [] [.run ⟨(some 47), none, .f (.load false 1 (.t 3))⟩,
    .run ⟨(some 48), none, .f (.load false 1 (.t 4))⟩,
    .run ⟨(some 49), none, .f (.mkFunc 114 [] [(.t 3), (.t 4), (.t 5)])⟩,
    .run ⟨(some 50), none, .e (.call 91 [(.t 47), (.t 48), (.t 49)])⟩,
    .run ⟨(some 6), none, .f (.mv (.t 50))⟩])
   .ret)))))
theorem k_disk_Disk_Rename : chkFn Tryd.prog n_disk_Disk_Rename ⟨b_disk_Disk_Rename, [.tmp 6], 51⟩ = true := by kernel_rfl
/-- (*fascine/disk.Disk).Rename$1 -/
abbrev n_disk_Disk_Rename_1 : Nat := 114
def b_disk_Disk_Rename_1 : Cd := (.seq (.reg [0, 1, 2, 3, 4, 5] [.run ⟨(some 6), none, .f (.load false 1 (.t 1))⟩,
    .run ⟨(some 7), none, .f (.nilCheck (.t 6))⟩,
    .run ⟨(some 8), none, .f (.fieldAddr 0 (.t 7))⟩,
    .run ⟨(some 9), none, .f (.load false 1 (.t 8))⟩,
    .run ⟨(some 10), none, .f (.load false 1 (.t 2))⟩,
    .run ⟨none, none, .e (.delete .str (.t 9) (.t 10))⟩])
   (.seq (.seq (.reg [0, 1, 2, 3, 4, 5, 6] [.run ⟨(some 11), none, .f (.load false 1 (.t 1))⟩,
    .run ⟨(some 12), none, .f (.nilCheck (.t 11))⟩,
    .run ⟨(some 13), none, .f (.fieldAddr 0 (.t 12))⟩,
    .run ⟨(some 14), none, .f (.load false 1 (.t 13))⟩,
    .run ⟨(some 15), none, .f (.load false 1 (.t 3))⟩,
    .run ⟨(some 16), none, .f (.lookup .str false (.ptr none) (.t 14) (.t 15))⟩,
    .run ⟨(some 5), none, .f (.mv (.t 16))⟩])
   (.seq (.reg [] [.run ⟨(some 17), none, .f (.mv (.t 5))⟩,
    .run ⟨(some 18), none, .f (.eq true .ptr (.t 17) (.c (.ptr none)))⟩])
   (.ite (.t 18)
   (.reg [0, 1, 2, 3, 4, 5, 6, 7, 8, 9, 10, 11, 12] [.run ⟨(some 19), none, .f (.load false 1 (.t 1))⟩,
    .run ⟨(some 20), none, .f (.nilCheck (.t 19))⟩,
    .run ⟨(some 21), none, .f (.fieldAddr 2 (.t 20))⟩,
    .run ⟨(some 22), none, .f (.load false 1 (.t 21))⟩,
    .run ⟨(some 23), none, .f (.mv (.t 5))⟩,
    .run ⟨(some 24), none, .f (.nilCheck (.t 23))⟩,
    .run ⟨(some 25), none, .f (.fieldAddr 0 (.t 24))⟩,
    .run ⟨(some 26), none, .f (.load false 1 (.t 25))⟩,
    .run ⟨(some 27), none, .f (.len .sl (.t 26))⟩,
    .run ⟨(some 28), none, .f (.bin .sub (.t 22) (.t 27))⟩,
    .run ⟨(some 29), none, .f (.nilCheck (.t 19))⟩,
    .run ⟨(some 30), none, .f (.fieldAddr 2 (.t 29))⟩,
    .run ⟨none, none, .e (.store 1 (.t 30) (.t 28))⟩])
   .skip)))
   (.reg [0, 1, 2, 3, 4, 5, 6] [.run ⟨(some 31), none, .f (.load false 1 (.t 1))⟩,
    .run ⟨(some 32), none, .f (.nilCheck (.t 31))⟩,
    .run ⟨(some 33), none, .f (.fieldAddr 0 (.t 32))⟩,
    .run ⟨(some 34), none, .f (.load false 1 (.t 33))⟩,
    .run ⟨(some 35), none, .f (.load false 1 (.t 3))⟩,
    .run ⟨(some 36), none, .f (.mv (.t 0))⟩,
    .run ⟨none, none, .e (.mapSet .str (.t 34) (.t 35) (.t 36))⟩])))
theorem k_disk_Disk_Rename_1 : chkFn Tryd.prog n_disk_Disk_Rename_1 ⟨b_disk_Disk_Rename_1, [], 37⟩ = true := by kernel_rfl
/-- (*fascine/disk.Disk).Restart -/
abbrev n_disk_Disk_Restart : Nat := 33
def r_disk_Disk_Restart_0 : Cd := (.seq (.reg [0, 1, 2, 3, 4, 5, 6, 7, 8, 9, 10, 11, 12, 13, 14, 15, 16, 17, 18, 19] [.run ⟨(some 45), none, .f (.mv (.t 0))⟩,
    .run ⟨(some 46), none, .f (.nilCheck (.t 45))⟩,
    .run ⟨(some 47), none, .f (.fieldAddr 2 (.t 46))⟩,
    .run ⟨(some 48), none, .f (.load false 1 (.t 47))⟩,
    .run ⟨(some 49), none, .f (.mv (.t 7))⟩,
    .run ⟨(some 50), none, .f (.nilCheck (.t 49))⟩,
    .run ⟨(some 51), none, .f (.fieldAddr 0 (.t 50))⟩,
    .run ⟨(some 52), none, .f (.load false 1 (.t 51))⟩,
    .run ⟨(some 53), none, .f (.len .sl (.t 52))⟩,
    .run ⟨(some 54), none, .f (.mv (.t 7))⟩,
    .run ⟨(some 55), none, .f (.nilCheck (.t 54))⟩,
    .run ⟨(some 56), none, .f (.fieldAddr 1 (.t 55))⟩,
    .run ⟨(some 57), none, .f (.load false 1 (.t 56))⟩,
    .run ⟨(some 58), none, .f (.bin .sub (.t 53) (.t 57))⟩,
    .run ⟨(some 59), none, .f (.mv (.t 8))⟩,
    .run ⟨(some 60), none, .f (.bin .sub (.t 58) (.t 59))⟩,
    .run ⟨(some 61), none, .f (.bin .sub (.t 48) (.t 60))⟩,
    .run ⟨(some 62), none, .f (.nilCheck (.t 45))⟩,
    .run ⟨(some 63), none, .f (.fieldAddr 2 (.t 62))⟩,
    .run ⟨none, none, .e (.store 1 (.t 63) (.t 61))⟩])
   (.seq (.reg [0, 1, 2, 3, 4, 5, 6, 7, 8, 9, 10, 11, 12, 13, 14, 15] [.run ⟨(some 64), none, .f (.mv (.t 7))⟩,
    .run ⟨(some 65), none, .f (.mv (.t 7))⟩,
    .run ⟨(some 66), none, .f (.nilCheck (.t 65))⟩,
    .run ⟨(some 67), none, .f (.fieldAddr 0 (.t 66))⟩,
    .run ⟨(some 68), none, .f (.load false 1 (.t 67))⟩,
    .run ⟨(some 69), none, .f (.mv (.t 7))⟩,
    .run ⟨(some 70), none, .f (.nilCheck (.t 69))⟩,
    .run ⟨(some 71), none, .f (.fieldAddr 1 (.t 70))⟩,
    .run ⟨(some 72), none, .f (.load false 1 (.t 71))⟩,
    .run ⟨(some 73), none, .f (.mv (.t 8))⟩,
    .run ⟨(some 74), none, .f (.bin .add (.t 72) (.t 73))⟩,
    .run ⟨(some 75), none, .f (.slice 1 (.t 68) none (some (.t 74)) none)⟩,
    .run ⟨(some 76), none, .e (.append 1 1 false (.c (.sl [] 0 1 .nil)) (.t 75))⟩,
    .run ⟨(some 77), none, .f (.nilCheck (.t 64))⟩,
    .run ⟨(some 78), none, .f (.fieldAddr 0 (.t 77))⟩,
    .run ⟨none, none, .e (.store 1 (.t 78) (.t 76))⟩])
   (.reg [] [.run ⟨(some 79), none, .f (.mv (.t 7))⟩,
    .run ⟨(some 80), none, .f (.mv (.t 7))⟩,
    .run ⟨(some 81), none, .f (.nilCheck (.t 80))⟩,
    .run ⟨(some 82), none, .f (.fieldAddr 0 (.t 81))⟩,
    .run ⟨(some 83), none, .f (.load false 1 (.t 82))⟩,
    .run ⟨(some 84), none, .f (.len .sl (.t 83))⟩,
    .run ⟨(some 85), none, .f (.nilCheck (.t 79))⟩,
    .run ⟨(some 86), none, .f (.fieldAddr 1 (.t 85))⟩,
    .run ⟨none, none, .e (.store 1 (.t 86) (.t 84))⟩])))
def k_disk_Disk_Restart_0 : Cd := (.seq (.reg [] [.run ⟨(some 16), none, .f (.mv (.t 14))⟩,
    .run ⟨(some 17), none, .f (.indexAddr 1 (.t 12) (.t 14))⟩,
    .run ⟨(some 18), none, .f (.load false 1 (.t 17))⟩,
    .run ⟨(some 5), none, .f (.mv (.t 16))⟩,
    .run ⟨(some 6), none, .f (.mv (.t 18))⟩])
   (.seq (.reg [] [.run ⟨(some 19), none, .f (.mv (.t 0))⟩,
    .run ⟨(some 20), none, .f (.nilCheck (.t 19))⟩,
    .run ⟨(some 21), none, .f (.fieldAddr 0 (.t 20))⟩,
    .run ⟨(some 22), none, .f (.load false 1 (.t 21))⟩,
    .run ⟨(some 23), none, .f (.mv (.t 6))⟩,
    .run ⟨(some 24), none, .f (.lookup .str false (.ptr none) (.t 22) (.t 23))⟩,
    .run ⟨(some 7), none, .f (.mv (.t 24))⟩,
    .run ⟨(some 8), none, .f (.mv (.c (.int .i64 0)))⟩])
   (.seq (.seq (.reg [] [.run ⟨(some 25), none, .f (.mv (.t 5))⟩,
    .run ⟨(some 26), none, .f (.mv (.t 1))⟩,
    .run ⟨(some 27), none, .f (.len .sl (.t 26))⟩,
    .run ⟨(some 28), none, .f (.bin .lss (.t 25) (.t 27))⟩])
   (.ite (.t 28)
   (.reg [0, 1, 2, 3, 4, 5, 6, 7, 8, 9, 10, 11, 12, 13, 14, 15, 16] [.run ⟨(some 29), none, .f (.mv (.t 1))⟩,
    .run ⟨(some 30), none, .f (.mv (.t 5))⟩,
    .run ⟨(some 31), none, .f (.indexAddr 1 (.t 29) (.t 30))⟩,
    .run ⟨(some 32), none, .f (.load false 1 (.t 31))⟩,
    .run ⟨(some 33), none, .f (.mv (.t 7))⟩,
    .run ⟨(some 34), none, .f (.nilCheck (.t 33))⟩,
    .run ⟨(some 35), none, .f (.fieldAddr 0 (.t 34))⟩,
    .run ⟨(some 36), none, .f (.load false 1 (.t 35))⟩,
    .run ⟨(some 37), none, .f (.len .sl (.t 36))⟩,
    .run ⟨(some 38), none, .f (.mv (.t 7))⟩,
    .run ⟨(some 39), none, .f (.nilCheck (.t 38))⟩,
    .run ⟨(some 40), none, .f (.fieldAddr 1 (.t 39))⟩,
    .run ⟨(some 41), none, .f (.load false 1 (.t 40))⟩,
    .run ⟨(some 42), none, .f (.bin .sub (.t 37) (.t 41))⟩,
    .run ⟨(some 43), none, .f (.minmax false [(.t 32), (.t 42)])⟩,
    .run ⟨(some 44), none, .f (.minmax true [(.c (.int .i64 0)), (.t 43)])⟩,
    .run ⟨(some 8), none, .f (.mv (.t 44))⟩])
   .skip))
   r_disk_Disk_Restart_0)))
def l_disk_Disk_Restart_0 : Cd := (.seq (.reg [] [.run ⟨(some 15), none, .f (.bin .lss (.t 14) (.t 13))⟩])
   (.seq (.ite (.t 15)
   .skip
   (.exit 0))
   (.seq (.blk 1 k_disk_Disk_Restart_0)
   (.reg [] [.run ⟨(some 87), none, .f (.bin .add (.t 14) (.c (.int .i64 1)))⟩,
    .run ⟨(some 14), none, .f (.mv (.t 87))⟩]))))
def s_disk_Disk_Restart_0 : Cd := (.seq (.reg [] [.run ⟨(some 88), none, .f (.mv (.t 0))⟩,
    .run ⟨(some 89), none, .f (.mv (.t 0))⟩,
    .run ⟨(some 90), none, .f (.nilCheck (.t 88))⟩,
    .run ⟨(some 91), none, .f (.fieldAddr 5 (.t 90))⟩,
    .run ⟨none, none, .e (.store 1 (.t 91) (.c (.bool false)))⟩,
    .run ⟨(some 92), none, .f (.nilCheck (.t 89))⟩,
    .run ⟨(some 93), none, .f (.fieldAddr 4 (.t 92))⟩,
    .run ⟨none, none, .e (.store 1 (.t 93) (.c (.int .i64 0)))⟩])
   (.seq (.reg [] [.run ⟨(some 4), none, .f (.mv (.c (.int .i64 0)))⟩])
   .ret))
def b_disk_Disk_Restart : Cd := (.seq (.reg [] [.run ⟨(some 4), none, .f (.mv (.c (.int .i64 0)))⟩])
   (.seq (.seq (.reg [] [.run ⟨(some 9), none, .f (.mv (.t 0))⟩,
    .run ⟨(some 10), none, .f (.eq false .ptr (.t 9) (.c (.ptr none)))⟩])
   (.ite (.t 10)
   (.seq (.reg [] [.run ⟨(some 4), none, .f (.mv (.c (.int .i64 8)))⟩])
   .ret)
   .skip))
   (.seq (.seq (.reg [] [.run ⟨(some 11), none, .f (.mv (.t 0))⟩,
    .run ⟨(some 12), none, .e (.call 66 [(.t 11)])⟩,
    .run ⟨(some 13), none, .f (.len .sl (.t 12))⟩,
    .run ⟨(some 14), none, .f (.mv (.c (.int .i64 0)))⟩])
   (.blk 0 (.loop l_disk_Disk_Restart_0)))
   s_disk_Disk_Restart_0)))
theorem k_disk_Disk_Restart : chkFn Tryd.prog n_disk_Disk_Restart ⟨b_disk_Disk_Restart, [.tmp 4], 94⟩ = true := by kernel_rfl
/-- (*fascine/disk.Disk).Sync -/
abbrev n_disk_Disk_Sync : Nat := 77
def b_disk_Disk_Sync : Cd := (.seq (.reg [] [.run ⟨(some 4), none, .f (.mv (.c (.int .i64 0)))⟩])
   (.seq (.reg [] [.run ⟨(some 5), none, .f (.mv (.t 0))⟩,
    .run ⟨(some 6), none, .f (.mv (.t 1))⟩,
    .run ⟨(some 7), none, .e (.call 91 [(.t 5), (.t 6), (.c (.func 100 [] []))])⟩,
    .run ⟨(some 4), none, .f (.mv (.t 7))⟩])
   .ret))
theorem k_disk_Disk_Sync : chkFn Tryd.prog n_disk_Disk_Sync ⟨b_disk_Disk_Sync, [.tmp 4], 8⟩ = true := by kernel_rfl
/-- (*fascine/disk.Disk).Sync$1 -/
abbrev n_disk_Disk_Sync_1 : Nat := 100
def b_disk_Disk_Sync_1 : Cd := (.reg [] [.run ⟨(some 2), none, .f (.mv (.t 0))⟩,
    .run ⟨(some 3), none, .f (.mv (.t 0))⟩,
    .run ⟨(some 4), none, .f (.nilCheck (.t 3))⟩,
    .run ⟨(some 5), none, .f (.fieldAddr 0 (.t 4))⟩,
    .run ⟨(some 6), none, .f (.load false 1 (.t 5))⟩,
    .run ⟨(some 7), none, .f (.len .sl (.t 6))⟩,
    .run ⟨(some 8), none, .f (.nilCheck (.t 2))⟩,
    .run ⟨(some 9), none, .f (.fieldAddr 1 (.t 8))⟩,
    .run ⟨none, none, .e (.store 1 (.t 9) (.t 7))⟩])
theorem k_disk_Disk_Sync_1 : chkFn Tryd.prog n_disk_Disk_Sync_1 ⟨b_disk_Disk_Sync_1, [], 10⟩ = true := by kernel_rfl
/-- (*fascine/disk.Disk).begin -/
abbrev n_disk_Disk_begin : Nat := 113
def b_disk_Disk_begin : Cd := (.seq (.reg [] [.run ⟨(some 2), none, .f (.mv (.c (.bool false)))⟩,
    .run ⟨(some 3), none, .f (.mv (.c (.int .i64 0)))⟩])
   (.seq (.seq (.reg [] [.run ⟨(some 4), none, .f (.mv (.t 0))⟩,
    .run ⟨(some 5), none, .f (.nilCheck (.t 4))⟩,
    .run ⟨(some 6), none, .f (.fieldAddr 5 (.t 5))⟩,
    .run ⟨(some 7), none, .f (.load false 1 (.t 6))⟩])
   (.ite (.t 7)
   (.seq (.reg [] [.run ⟨(some 2), none, .f (.mv (.c (.bool false)))⟩,
    .run ⟨(some 3), none, .f (.mv (.c (.int .i64 10)))⟩])
   .ret)
   .skip))
   (.seq (.reg [] [.run ⟨(some 8), none, .f (.mv (.t 0))⟩,
    .run ⟨(some 9), none, .f (.nilCheck (.t 8))⟩,
    .run ⟨(some 10), none, .f (.fieldAddr 3 (.t 9))⟩,
    .run ⟨(some 11), none, .f (.load false 1 (.t 10))⟩,
    .run ⟨(some 12), none, .f (.bin .add (.t 11) (.c (.int .i64 1)))⟩,
    .run ⟨(some 13), none, .f (.nilCheck (.t 8))⟩,
    .run ⟨(some 14), none, .f (.fieldAddr 3 (.t 13))⟩,
    .run ⟨none, none, .e (.store 1 (.t 14) (.t 12))⟩])
   (.seq (.seq (.reg [] [.run ⟨(some 15), none, .f (.mv (.t 0))⟩,
    .run ⟨(some 16), none, .f (.nilCheck (.t 15))⟩,
    .run ⟨(some 17), none, .f (.fieldAddr 4 (.t 16))⟩,
    .run ⟨(some 18), none, .f (.load false 1 (.t 17))⟩,
    .run ⟨(some 19), none, .f (.bin .gtr (.t 18) (.c (.int .i64 0)))⟩])
   (.ite (.t 19)
   (.seq (.reg [] [.run ⟨(some 20), none, .f (.mv (.t 0))⟩,
    .run ⟨(some 21), none, .f (.nilCheck (.t 20))⟩,
    .run ⟨(some 22), none, .f (.fieldAddr 4 (.t 21))⟩,
    .run ⟨(some 23), none, .f (.load false 1 (.t 22))⟩,
    .run ⟨(some 24), none, .f (.bin .sub (.t 23) (.c (.int .i64 1)))⟩,
    .run ⟨(some 25), none, .f (.nilCheck (.t 20))⟩,
    .run ⟨(some 26), none, .f (.fieldAddr 4 (.t 25))⟩,
    .run ⟨none, none, .e (.store 1 (.t 26) (.t 24))⟩])
   (.reg [] [.run ⟨(some 27), none, .f (.mv (.t 0))⟩,
    .run ⟨(some 28), none, .f (.mv (.t 0))⟩,
    .run ⟨(some 29), none, .f (.nilCheck (.t 28))⟩,
    .run ⟨(some 30), none, .f (.fieldAddr 4 (.t 29))⟩,
    .run ⟨(some 31), none, .f (.load false 1 (.t 30))⟩,
    .run ⟨(some 32), none, .f (.bin .eql (.t 31) (.c (.int .i64 0)))⟩,
    .run ⟨(some 33), none, .f (.nilCheck (.t 27))⟩,
    .run ⟨(some 34), none, .f (.fieldAddr 5 (.t 33))⟩,
    .run ⟨none, none, .e (.store 1 (.t 34) (.t 32))⟩]))
   .skip))
   (.seq (.reg [] [.run ⟨(some 35), none, .f (.mv (.t 0))⟩,
    .run ⟨(some 36), none, .f (.nilCheck (.t 35))⟩,
    .run ⟨(some 37), none, .f (.fieldAddr 5 (.t 36))⟩,
    .run ⟨(some 38), none, .f (.load false 1 (.t 37))⟩,
    .run ⟨(some 2), none, .f (.mv (.t 38))⟩,
    .run ⟨(some 3), none, .f (.mv (.c (.int .i64 0)))⟩])
   .ret)))))
theorem k_disk_Disk_begin : chkFn Tryd.prog n_disk_Disk_begin ⟨b_disk_Disk_begin, [.tmp 2, .tmp 3], 39⟩ = true := by kernel_rfl
/-- (*fascine/disk.Disk).change -/
abbrev n_disk_Disk_change : Nat := 91
def b_disk_Disk_change : Cd := (.seq (.reg [] [.run ⟨(some 6), none, .f (.mv (.c (.int .i64 0)))⟩])
   (.seq (.seq (.reg [] [.run ⟨(some 11), none, .f (.mv (.t 0))⟩,
    .run ⟨(some 12), none, .f (.mv (.t 1))⟩,
    .run ⟨(some 13), none, .e (.buildSlice 1 1 0 [(.str (mkS []))] [(0, 1, (.t 12))])⟩,
    .run ⟨(some 14), none, .e (.call 93 [(.t 11), (.t 13)])⟩,
    .run ⟨(some 7), none, .f (.mv (.t 14))⟩])
   (.seq (.reg [] [.run ⟨(some 15), none, .f (.mv (.t 7))⟩,
    .run ⟨(some 16), none, .f (.bin .neq (.t 15) (.c (.int .i64 0)))⟩])
   (.ite (.t 16)
   (.seq (.reg [] [.run ⟨(some 17), none, .f (.mv (.t 7))⟩,
    .run ⟨(some 6), none, .f (.mv (.t 17))⟩])
   .ret)
   .skip)))
   (.seq (.seq (.reg [] [.run ⟨(some 18), none, .f (.mv (.t 0))⟩,
    .run ⟨(some 19), none, .f (.nilCheck (.t 18))⟩,
    .run ⟨(some 20), none, .f (.fieldAddr 5 (.t 19))⟩,
    .run ⟨(some 21), none, .f (.load false 1 (.t 20))⟩])
   (.ite (.t 21)
   (.seq (.reg [] [.run ⟨(some 6), none, .f (.mv (.c (.int .i64 10)))⟩])
   .ret)
   .skip))
   (.seq (.reg [] [.run ⟨(some 22), none, .f (.mv (.t 0))⟩,
    .run ⟨(some 23), none, .f (.nilCheck (.t 22))⟩,
    .run ⟨(some 24), none, .f (.fieldAddr 0 (.t 23))⟩,
    .run ⟨(some 25), none, .f (.load false 1 (.t 24))⟩,
    .run ⟨(some 26), none, .f (.mv (.t 1))⟩,
    .run ⟨(some 27), none, .f (.lookup .str false (.ptr none) (.t 25) (.t 26))⟩,
    .run ⟨(some 8), none, .f (.mv (.t 27))⟩])
   (.seq (.seq (.reg [] [.run ⟨(some 28), none, .f (.mv (.t 8))⟩,
    .run ⟨(some 29), none, .f (.eq false .ptr (.t 28) (.c (.ptr none)))⟩])
   (.ite (.t 29)
   (.seq (.reg [] [.run ⟨(some 6), none, .f (.mv (.c (.int .i64 8)))⟩])
   .ret)
   .skip))
   (.seq (.seq (.reg [] [.run ⟨(some 31), none, .f (.mv (.t 0))⟩,
    .run ⟨(some 32), none, .e (.call 113 [(.t 31)])⟩,
    .run ⟨(some 30), none, .f (.mv (.t 32))⟩,
    .run ⟨(some 33), none, .f (.extract (.t 30) 0)⟩,
    .run ⟨(some 34), none, .f (.extract (.t 30) 1)⟩,
    .run ⟨(some 9), none, .f (.mv (.t 33))⟩,
    .run ⟨(some 10), none, .f (.mv (.t 34))⟩])
   (.seq (.reg [] [.run ⟨(some 35), none, .f (.mv (.t 9))⟩])
   (.ite (.t 35)
   (.seq (.reg [] [.run ⟨(some 6), none, .f (.mv (.c (.int .i64 10)))⟩])
   .ret)
   .skip)))
   (.seq (.reg [] [.run ⟨(some 36), none, .f (.mv (.t 2))⟩,
    .run ⟨(some 37), none, .f (.mv (.t 8))⟩,
    .run ⟨(some 38), none, .e (.callV (.t 36) [(.t 37)])⟩])
   (.seq (.reg [] [.run ⟨(some 6), none, .f (.mv (.c (.int .i64 0)))⟩])
   .ret))))))))
theorem k_disk_Disk_change : chkFn Tryd.prog n_disk_Disk_change ⟨b_disk_Disk_change, [.tmp 6], 39⟩ = true := by kernel_rfl
/-- (*fascine/disk.Disk).grow -/
abbrev n_disk_Disk_grow : Nat := 99
def k_disk_Disk_grow_0 : Cd := (.seq (.reg [] [.run ⟨(some 27), none, .f (.mv (.t 0))⟩,
    .run ⟨(some 28), none, .f (.nilCheck (.t 27))⟩,
    .run ⟨(some 29), none, .f (.fieldAddr 5 (.t 28))⟩,
    .run ⟨(some 30), none, .f (.load false 1 (.t 29))⟩,
    .run ⟨(some 26), none, .f (.mv (.t 30))⟩])
   (.ite (.t 26)
   (.seq (.reg [] [.run ⟨(some 8), none, .f (.mv (.c (.int .i64 10)))⟩])
   .ret)
   (.seq (.reg [] [.run ⟨(some 32), none, .f (.mv (.t 3))⟩,
    .run ⟨(some 33), none, .f (.mv (.t 32))⟩,
    .run ⟨(some 34), (some (33, true)), .f (.mv (.t 10))⟩,
    .run ⟨(some 35), (some (33, true)), .f (.eq true .ptr (.t 34) (.c (.ptr none)))⟩,
    .run ⟨(some 36), none, .f (.pick (.t 33) (.t 35) (.c (.bool false)))⟩,
    .run ⟨(some 31), none, .f (.mv (.t 36))⟩])
   (.ite (.t 31)
   (.seq (.reg [] [.run ⟨(some 8), none, .f (.mv (.c (.int .i64 9)))⟩])
   .ret)
   (.seq (.reg [0, 1, 2, 3, 4, 5, 6, 7, 8, 9, 10, 11, 12] [.run ⟨(some 38), none, .f (.mv (.t 2))⟩,
    .run ⟨(some 39), none, .f (.len .sl (.t 38))⟩,
    .run ⟨(some 40), none, .f (.mv (.t 0))⟩,
    .run ⟨(some 41), none, .f (.nilCheck (.t 40))⟩,
    .run ⟨(some 42), none, .f (.fieldAddr 1 (.t 41))⟩,
    .run ⟨(some 43), none, .f (.load false 1 (.t 42))⟩,
    .run ⟨(some 44), none, .f (.mv (.t 0))⟩,
    .run ⟨(some 45), none, .f (.nilCheck (.t 44))⟩,
    .run ⟨(some 46), none, .f (.fieldAddr 2 (.t 45))⟩,
    .run ⟨(some 47), none, .f (.load false 1 (.t 46))⟩,
    .run ⟨(some 48), none, .f (.bin .sub (.t 43) (.t 47))⟩,
    .run ⟨(some 49), none, .f (.bin .gtr (.t 39) (.t 48))⟩,
    .run ⟨(some 37), none, .f (.mv (.t 49))⟩])
   (.ite (.t 37)
   (.seq (.reg [] [.run ⟨(some 8), none, .f (.mv (.c (.int .i64 11)))⟩])
   .ret)
   .skip))))))
def s_disk_Disk_grow_0 : Cd := (.seq (.reg [] [.run ⟨(some 51), none, .f (.mv (.t 0))⟩,
    .run ⟨(some 52), none, .e (.call 113 [(.t 51)])⟩,
    .run ⟨(some 50), none, .f (.mv (.t 52))⟩,
    .run ⟨(some 53), none, .f (.extract (.t 50) 0)⟩,
    .run ⟨(some 54), none, .f (.extract (.t 50) 1)⟩,
    .run ⟨(some 11), none, .f (.mv (.t 53))⟩,
    .run ⟨(some 12), none, .f (.mv (.t 54))⟩])
   (.seq (.seq (.reg [] [.run ⟨(some 55), none, .f (.mv (.t 12))⟩,
    .run ⟨(some 56), none, .f (.bin .neq (.t 55) (.c (.int .i64 0)))⟩])
   (.ite (.t 56)
   (.seq (.reg [] [.run ⟨(some 57), none, .f (.mv (.t 12))⟩,
    .run ⟨(some 8), none, .f (.mv (.t 57))⟩])
   .ret)
   .skip))
   (.seq (.seq (.reg [] [.run ⟨(some 58), none, .f (.mv (.t 10))⟩,
    .run ⟨(some 59), none, .f (.eq false .ptr (.t 58) (.c (.ptr none)))⟩])
   (.ite (.t 59)
   (.seq (.reg [] [.run ⟨(some 60), none, .f (.build [(.sl [] 0 1 .nil), (.int .i64 0)] [])⟩,
    .run ⟨(some 61), none, .e (.box (.t 60))⟩,
    .run ⟨(some 10), none, .f (.mv (.t 61))⟩])
   (.reg [] [.run ⟨(some 62), none, .f (.mv (.t 0))⟩,
    .run ⟨(some 63), none, .f (.nilCheck (.t 62))⟩,
    .run ⟨(some 64), none, .f (.fieldAddr 0 (.t 63))⟩,
    .run ⟨(some 65), none, .f (.load false 1 (.t 64))⟩,
    .run ⟨(some 66), none, .f (.mv (.t 1))⟩,
    .run ⟨(some 67), none, .f (.mv (.t 10))⟩,
    .run ⟨none, none, .e (.mapSet .str (.t 65) (.t 66) (.t 67))⟩]))
   .skip))
   (.seq (.reg [] [.run ⟨(some 68), none, .f (.mv (.t 10))⟩,
    .run ⟨(some 69), none, .f (.mv (.t 10))⟩,
    .run ⟨(some 70), none, .f (.nilCheck (.t 69))⟩,
    .run ⟨(some 71), none, .f (.fieldAddr 0 (.t 70))⟩,
    .run ⟨(some 72), none, .f (.load false 1 (.t 71))⟩,
    .run ⟨(some 73), none, .f (.mv (.t 2))⟩,
    .run ⟨(some 74), none, .e (.append 1 1 false (.t 72) (.t 73))⟩,
    .run ⟨(some 75), none, .f (.nilCheck (.t 68))⟩,
    .run ⟨(some 76), none, .f (.fieldAddr 0 (.t 75))⟩,
    .run ⟨none, none, .e (.store 1 (.t 76) (.t 74))⟩])
   (.seq (.reg [] [.run ⟨(some 77), none, .f (.mv (.t 0))⟩,
    .run ⟨(some 78), none, .f (.nilCheck (.t 77))⟩,
    .run ⟨(some 79), none, .f (.fieldAddr 2 (.t 78))⟩,
    .run ⟨(some 80), none, .f (.load false 1 (.t 79))⟩,
    .run ⟨(some 81), none, .f (.mv (.t 2))⟩,
    .run ⟨(some 82), none, .f (.len .sl (.t 81))⟩,
    .run ⟨(some 83), none, .f (.bin .add (.t 80) (.t 82))⟩,
    .run ⟨(some 84), none, .f (.nilCheck (.t 77))⟩,
    .run ⟨(some 85), none, .f (.fieldAddr 2 (.t 84))⟩,
    .run ⟨none, none, .e (.store 1 (.t 85) (.t 83))⟩])
   (.seq (.seq (.reg [] [.run ⟨(some 86), none, .f (.mv (.t 11))⟩])
   (.ite (.t 86)
   (.seq (.reg [] [.run ⟨(some 8), none, .f (.mv (.c (.int .i64 10)))⟩])
   .ret)
   .skip))
   (.seq (.reg [] [.run ⟨(some 8), none, .f (.mv (.c (.int .i64 0)))⟩])
   .ret)))))))
def b_disk_Disk_grow : Cd := (.seq (.reg [] [.run ⟨(some 8), none, .f (.mv (.c (.int .i64 0)))⟩])
   (.seq (.seq (.reg [] [.run ⟨(some 13), none, .f (.mv (.t 0))⟩,
    .run ⟨(some 14), none, .f (.mv (.t 1))⟩,
    .run ⟨(some 15), none, .e (.buildSlice 1 1 0 [(.str (mkS []))] [(0, 1, (.t 14))])⟩,
    .run ⟨(some 16), none, .e (.call 93 [(.t 13), (.t 15)])⟩,
    .run ⟨(some 9), none, .f (.mv (.t 16))⟩])
   (.seq (.reg [] [.run ⟨(some 17), none, .f (.mv (.t 9))⟩,
    .run ⟨(some 18), none, .f (.bin .neq (.t 17) (.c (.int .i64 0)))⟩])
   (.ite (.t 18)
   (.seq (.reg [] [.run ⟨(some 19), none, .f (.mv (.t 9))⟩,
    .run ⟨(some 8), none, .f (.mv (.t 19))⟩])
   .ret)
   .skip)))
   (.seq (.reg [] [.run ⟨(some 20), none, .f (.mv (.t 0))⟩,
    .run ⟨(some 21), none, .f (.nilCheck (.t 20))⟩,
    .run ⟨(some 22), none, .f (.fieldAddr 0 (.t 21))⟩,
    .run ⟨(some 23), none, .f (.load false 1 (.t 22))⟩,
    .run ⟨(some 24), none, .f (.mv (.t 1))⟩,
    .run ⟨(some 25), none, .f (.lookup .str false (.ptr none) (.t 23) (.t 24))⟩,
    .run ⟨(some 10), none, .f (.mv (.t 25))⟩])
   (.seq (.blk 0 k_disk_Disk_grow_0)
   s_disk_Disk_grow_0))))
theorem k_disk_Disk_grow : chkFn Tryd.prog n_disk_Disk_grow ⟨b_disk_Disk_grow, [.tmp 8], 87⟩ = true := by kernel_rfl
/-- (*fascine/disk.Disk).look -/
abbrev n_disk_Disk_look : Nat := 93
def l_disk_Disk_look_0 : Cd := (.seq (.reg [] [.run ⟨(some 12), none, .f (.bin .lss (.t 11) (.t 10))⟩])
   (.seq (.ite (.t 12)
   .skip
   (.exit 0))
   (.seq (.blk 1 (.seq (.reg [] [.run ⟨(some 13), none, .f (.indexAddr 1 (.t 9) (.t 11))⟩,
    .run ⟨(some 14), none, .f (.load false 1 (.t 13))⟩,
    .run ⟨(some 6), none, .f (.mv (.t 14))⟩])
   (.seq (.reg [] [.run ⟨(some 15), none, .f (.mv (.t 6))⟩,
    .run ⟨(some 16), none, .e (.call 70 [(.t 15)])⟩,
    .run ⟨(some 17), none, .f (.un .not (.t 16))⟩])
   (.ite (.t 17)
   (.seq (.reg [] [.run ⟨(some 4), none, .f (.mv (.c (.int .i64 1)))⟩])
   .ret)
   .skip))))
   (.reg [] [.run ⟨(some 18), none, .f (.bin .add (.t 11) (.c (.int .i64 1)))⟩,
    .run ⟨(some 11), none, .f (.mv (.t 18))⟩]))))
def b_disk_Disk_look : Cd := (.seq (.reg [] [.run ⟨(some 4), none, .f (.mv (.c (.int .i64 0)))⟩])
   (.seq (.seq (.reg [] [.run ⟨(some 7), none, .f (.mv (.t 0))⟩,
    .run ⟨(some 8), none, .f (.eq false .ptr (.t 7) (.c (.ptr none)))⟩])
   (.ite (.t 8)
   (.seq (.reg [] [.run ⟨(some 4), none, .f (.mv (.c (.int .i64 8)))⟩])
   .ret)
   .skip))
   (.seq (.seq (.reg [] [.run ⟨(some 9), none, .f (.mv (.t 1))⟩,
    .run ⟨(some 10), none, .f (.len .sl (.t 9))⟩,
    .run ⟨(some 11), none, .f (.mv (.c (.int .i64 0)))⟩])
   (.blk 0 (.loop l_disk_Disk_look_0)))
   (.seq (.reg [] [.run ⟨(some 4), none, .f (.mv (.c (.int .i64 0)))⟩])
   .ret))))
theorem k_disk_Disk_look : chkFn Tryd.prog n_disk_Disk_look ⟨b_disk_Disk_look, [.tmp 4], 19⟩ = true := by kernel_rfl
/-- fascine/disk.Name -/
abbrev n_disk_Name : Nat := 70
def k_disk_Name_0 : Cd := (.seq (.reg [] [.run ⟨(some 8), none, .f (.mv (.t 6))⟩,
    .run ⟨(some 3), none, .f (.mv (.t 8))⟩])
   (.seq (.reg [] [.run ⟨(some 9), none, .f (.mv (.t 0))⟩,
    .run ⟨(some 10), none, .f (.mv (.t 3))⟩,
    .run ⟨(some 11), none, .f (.indexS (.t 9) (.t 10))⟩,
    .run ⟨(some 12), none, .f (.bin .geq (.t 11) (.c (.int .u8 97)))⟩,
    .run ⟨(some 13), none, .f (.mv (.t 12))⟩,
    .run ⟨(some 14), (some (13, true)), .f (.mv (.t 0))⟩,
    .run ⟨(some 15), (some (13, true)), .f (.mv (.t 3))⟩,
    .run ⟨(some 16), (some (13, true)), .f (.indexS (.t 14) (.t 15))⟩,
    .run ⟨(some 17), (some (13, true)), .f (.bin .leq (.t 16) (.c (.int .u8 122)))⟩,
    .run ⟨(some 18), none, .f (.pick (.t 13) (.t 17) (.c (.bool false)))⟩,
    .run ⟨(some 19), none, .f (.mv (.t 18))⟩,
    .run ⟨(some 20), (some (19, false)), .f (.mv (.t 0))⟩,
    .run ⟨(some 21), (some (19, false)), .f (.mv (.t 3))⟩,
    .run ⟨(some 22), (some (19, false)), .f (.indexS (.t 20) (.t 21))⟩,
    .run ⟨(some 23), (some (19, false)), .f (.bin .geq (.t 22) (.c (.int .u8 48)))⟩,
    .run ⟨(some 24), (some (19, false)), .f (.mv (.t 23))⟩,
    .run ⟨(some 25), (some (24, true)), .f (.mv (.t 0))⟩,
    .run ⟨(some 26), (some (24, true)), .f (.mv (.t 3))⟩,
    .run ⟨(some 27), (some (24, true)), .f (.indexS (.t 25) (.t 26))⟩,
    .run ⟨(some 28), (some (24, true)), .f (.bin .leq (.t 27) (.c (.int .u8 57)))⟩,
    .run ⟨(some 29), (some (19, false)), .f (.pick (.t 24) (.t 28) (.c (.bool false)))⟩,
    .run ⟨(some 30), none, .f (.pick (.t 19) (.c (.bool true)) (.t 29))⟩,
    .run ⟨(some 31), none, .f (.mv (.t 30))⟩,
    .run ⟨(some 32), (some (31, false)), .f (.mv (.t 0))⟩,
    .run ⟨(some 33), (some (31, false)), .f (.mv (.t 3))⟩,
    .run ⟨(some 34), (some (31, false)), .f (.indexS (.t 32) (.t 33))⟩,
    .run ⟨(some 35), (some (31, false)), .f (.bin .eql (.t 34) (.c (.int .u8 46)))⟩,
    .run ⟨(some 36), none, .f (.pick (.t 31) (.c (.bool true)) (.t 35))⟩,
    .run ⟨(some 37), none, .f (.mv (.t 36))⟩,
    .run ⟨(some 38), (some (37, false)), .f (.mv (.t 0))⟩,
    .run ⟨(some 39), (some (37, false)), .f (.mv (.t 3))⟩,
    .run ⟨(some 40), (some (37, false)), .f (.indexS (.t 38) (.t 39))⟩,
    .run ⟨(some 41), (some (37, false)), .f (.bin .eql (.t 40) (.c (.int .u8 45)))⟩,
    .run ⟨(some 42), none, .f (.pick (.t 37) (.c (.bool true)) (.t 41))⟩,
    .run ⟨(some 43), none, .f (.un .not (.t 42))⟩])
   (.ite (.t 43)
   (.seq (.reg [] [.run ⟨(some 2), none, .f (.mv (.c (.bool false)))⟩])
   .ret)
   .skip)))
def l_disk_Name_0 : Cd := (.seq (.reg [] [.run ⟨(some 7), none, .f (.bin .lss (.t 6) (.t 5))⟩])
   (.seq (.ite (.t 7)
   .skip
   (.exit 0))
   (.seq (.blk 1 k_disk_Name_0)
   (.reg [] [.run ⟨(some 44), none, .f (.bin .add (.t 6) (.c (.int .i64 1)))⟩,
    .run ⟨(some 6), none, .f (.mv (.t 44))⟩]))))
def s_disk_Name_0 : Cd := (.seq (.reg [] [.run ⟨(some 45), none, .f (.mv (.t 0))⟩,
    .run ⟨(some 46), none, .f (.len .str (.t 45))⟩,
    .run ⟨(some 47), none, .f (.bin .geq (.t 46) (.c (.int .i64 1)))⟩,
    .run ⟨(some 48), none, .f (.mv (.t 47))⟩,
    .run ⟨(some 49), (some (48, true)), .f (.mv (.t 0))⟩,
    .run ⟨(some 50), (some (48, true)), .f (.len .str (.t 49))⟩,
    .run ⟨(some 51), (some (48, true)), .f (.bin .leq (.t 50) (.c (.int .i64 32)))⟩,
    .run ⟨(some 52), none, .f (.pick (.t 48) (.t 51) (.c (.bool false)))⟩,
    .run ⟨(some 2), none, .f (.mv (.t 52))⟩])
   .ret)
def b_disk_Name : Cd := (.seq (.reg [] [.run ⟨(some 2), none, .f (.mv (.c (.bool false)))⟩])
   (.seq (.seq (.reg [] [.run ⟨(some 4), none, .f (.mv (.t 0))⟩,
    .run ⟨(some 5), none, .f (.len .str (.t 4))⟩,
    .run ⟨(some 6), none, .f (.mv (.c (.int .i64 0)))⟩])
   (.blk 0 (.loop l_disk_Name_0)))
   s_disk_Name_0))
theorem k_disk_Name : chkFn Tryd.prog n_disk_Name ⟨b_disk_Name, [.tmp 2], 53⟩ = true := by kernel_rfl
/-- fascine/disk.New -/
abbrev n_disk_New : Nat := 20
def b_disk_New : Cd := (.seq (.reg [] [.run ⟨(some 2), none, .f (.mv (.c (.ptr none)))⟩,
    .run ⟨(some 3), none, .f (.mv (.c (.int .i64 0)))⟩])
   (.seq (.seq (.reg [] [.run ⟨(some 4), none, .f (.mv (.t 0))⟩,
    .run ⟨(some 5), none, .f (.bin .lss (.t 4) (.c (.int .i64 0)))⟩,
    .run ⟨(some 6), none, .f (.mv (.t 5))⟩,
    .run ⟨(some 7), (some (6, false)), .f (.mv (.t 0))⟩,
    .run ⟨(some 8), (some (6, false)), .f (.bin .gtr (.t 7) (.c (.int .i64 67108864)))⟩,
    .run ⟨(some 9), none, .f (.pick (.t 6) (.c (.bool true)) (.t 8))⟩])
   (.ite (.t 9)
   (.seq (.reg [] [.run ⟨(some 2), none, .f (.mv (.c (.ptr none)))⟩,
    .run ⟨(some 3), none, .f (.mv (.c (.int .i64 1)))⟩])
   .ret)
   .skip))
   (.seq (.reg [] [.run ⟨(some 10), none, .e (.makeMap)⟩,
    .run ⟨(some 11), none, .f (.mv (.t 0))⟩,
    .run ⟨(some 12), none, .f (.build [(.map none), (.int .i64 0), (.int .i64 0), (.int .i64 0), (.int .i64 0), (.bool false)] [(0, 1, (.t 10)), (1, 1, (.t 11))])⟩,
    .run ⟨(some 13), none, .e (.box (.t 12))⟩,
    .run ⟨(some 2), none, .f (.mv (.t 13))⟩,
    .run ⟨(some 3), none, .f (.mv (.c (.int .i64 0)))⟩])
   .ret)))
theorem k_disk_New : chkFn Tryd.prog n_disk_New ⟨b_disk_New, [.tmp 2, .tmp 3], 14⟩ = true := by kernel_rfl
/-- maps.Keys[map[string]*fascine/disk.file,string,*fascine/disk.file] -/
abbrev n_maps_Keys_map_string_disk_file_string_disk_file : Nat := 79
def b_maps_Keys_map_string_disk_file_string_disk_file : Cd := (.seq (.reg [] [.run ⟨(some 1), none, .e (.box (.t 0))⟩,
    .run ⟨(some 2), none, .f (.mv (.c .nilFunc))⟩])
   (.seq (.reg [] [.run ⟨(some 3), none, .f (.mkFunc 103 [] [(.t 1)])⟩,
    .run ⟨(some 2), none, .f (.mv (.t 3))⟩])
   .ret))
theorem k_maps_Keys_map_string_disk_file_string_disk_file : chkFn Tryd.prog n_maps_Keys_map_string_disk_file_string_disk_file ⟨b_maps_Keys_map_string_disk_file_string_disk_file, [.tmp 2], 4⟩ = true := by kernel_rfl
/-- slices.Sorted[string] -/
abbrev n_slices_Sorted_string : Nat := 78
def b_slices_Sorted_string : Cd := (.seq (.reg [] [.run ⟨(some 2), none, .f (.mv (.c (.sl [] 0 1 .nil)))⟩])
   (.seq (.reg [] [.run ⟨(some 4), none, .f (.mv (.t 0))⟩,
    .run ⟨(some 5), none, .e (.call 101 [(.t 4)])⟩,
    .run ⟨(some 3), none, .f (.mv (.t 5))⟩])
   (.seq (.reg [] [.run ⟨(some 6), none, .f (.mv (.t 3))⟩,
    .run ⟨(some 7), none, .e (.call 102 [(.t 6)])⟩])
   (.seq (.reg [] [.run ⟨(some 8), none, .f (.mv (.t 3))⟩,
    .run ⟨(some 2), none, .f (.mv (.t 8))⟩])
   .ret))))
theorem k_slices_Sorted_string : chkFn Tryd.prog n_slices_Sorted_string ⟨b_slices_Sorted_string, [.tmp 2], 9⟩ = true := by kernel_rfl
end Go.VM
