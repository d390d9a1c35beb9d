/-
  The codes of functions, as the value machine has them, and that they stand for the model's (printed by a program, wip/gen).
-/
import Derived.Test.YtddjanglghgoeaaVmStr
import Derived.Test.YtddjanglghgoeaaProg
import Derived.KernelRfl
set_option linter.unusedVariables false
set_option maxRecDepth 100000
namespace Go.VM
open Go Go.Proofs

theorem mixed : Try.prog.follows .mixedOrders = true := by kernel_rfl
/-- (*fascine/disk.Disk).Append -/
abbrev n_disk_Disk_Append : Nat := 19
def b_disk_Disk_Append : Cd := (.seq (.reg [] [.run ⟨(some 6), none, .f (.mv (.c (.int .i64 0)))⟩])
   (.seq (.reg [] [.run ⟨(some 7), none, .f (.mv (.t 0))⟩,
    .run ⟨(some 8), none, .f (.mv (.t 1))⟩,
    .run ⟨(some 9), none, .f (.mv (.t 2))⟩,
    .run ⟨(some 10), none, .e (.call 46 [(.t 7), (.t 8), (.t 9), (.c (.bool false))])⟩,
    .run ⟨(some 6), none, .f (.mv (.t 10))⟩])
   .ret))
theorem k_disk_Disk_Append : chkFn Try.prog n_disk_Disk_Append ⟨b_disk_Disk_Append, [.tmp 6], 11⟩ = true := by kernel_rfl
/-- (*fascine/disk.Disk).Arm -/
abbrev n_disk_Disk_Arm : Nat := 24
def b_disk_Disk_Arm : Cd := (.seq (.reg [] [.run ⟨(some 4), none, .f (.mv (.c (.int .i64 0)))⟩])
   (.seq (.seq (.reg [] [.run ⟨(some 5), none, .f (.mv (.t 0))⟩,
    .run ⟨(some 6), none, .f (.eq false .ptr (.t 5) (.c (.ptr none)))⟩])
   (.ite (.t 6)
   (.seq (.reg [] [.run ⟨(some 4), none, .f (.mv (.c (.int .i64 8)))⟩])
   .ret)
   .skip))
   (.seq (.seq (.reg [] [.run ⟨(some 7), none, .f (.mv (.t 1))⟩,
    .run ⟨(some 8), none, .f (.bin .lss (.t 7) (.c (.int .i64 0)))⟩])
   (.ite (.t 8)
   (.seq (.reg [] [.run ⟨(some 4), none, .f (.mv (.c (.int .i64 1)))⟩])
   .ret)
   .skip))
   (.seq (.reg [] [.run ⟨(some 9), none, .f (.mv (.t 0))⟩,
    .run ⟨(some 10), none, .f (.mv (.t 1))⟩,
    .run ⟨(some 11), none, .f (.nilCheck (.t 9))⟩,
    .run ⟨(some 12), none, .f (.fieldAddr 4 (.t 11))⟩,
    .run ⟨none, none, .e (.store 1 (.t 12) (.t 10))⟩])
   (.seq (.reg [] [.run ⟨(some 4), none, .f (.mv (.c (.int .i64 0)))⟩])
   .ret)))))
theorem k_disk_Disk_Arm : chkFn Try.prog n_disk_Disk_Arm ⟨b_disk_Disk_Arm, [.tmp 4], 13⟩ = true := by kernel_rfl
/-- (*fascine/disk.Disk).Names -/
abbrev n_disk_Disk_Names : Nat := 28
def b_disk_Disk_Names : Cd := (.seq (.reg [] [.run ⟨(some 2), none, .f (.mv (.c (.sl [] 0 1 .nil)))⟩])
   (.seq (.seq (.reg [] [.run ⟨(some 3), none, .f (.mv (.t 0))⟩,
    .run ⟨(some 4), none, .f (.eq false .ptr (.t 3) (.c (.ptr none)))⟩])
   (.ite (.t 4)
   (.seq (.reg [] [.run ⟨(some 2), none, .f (.mv (.c (.sl [] 0 1 .nil)))⟩])
   .ret)
   .skip))
   (.seq (.reg [] [.run ⟨(some 5), none, .f (.mv (.t 0))⟩,
    .run ⟨(some 6), none, .f (.nilCheck (.t 5))⟩,
    .run ⟨(some 7), none, .f (.fieldAddr 0 (.t 6))⟩,
    .run ⟨(some 8), none, .f (.load false 1 (.t 7))⟩,
    .run ⟨(some 9), none, .e (.call 58 [(.t 8)])⟩,
    .run ⟨(some 10), none, .e (.call 57 [(.t 9)])⟩,
    .run ⟨(some 2), none, .f (.mv (.t 10))⟩])
   .ret)))
theorem k_disk_Disk_Names : chkFn Try.prog n_disk_Disk_Names ⟨b_disk_Disk_Names, [.tmp 2], 11⟩ = true := by kernel_rfl
/-- (*fascine/disk.Disk).On -/
abbrev n_disk_Disk_On : Nat := 29
def b_disk_Disk_On : Cd := (.seq (.reg [] [.run ⟨(some 2), none, .f (.mv (.c (.bool false)))⟩])
   (.seq (.reg [] [.run ⟨(some 3), none, .f (.mv (.t 0))⟩,
    .run ⟨(some 4), none, .f (.eq true .ptr (.t 3) (.c (.ptr none)))⟩,
    .run ⟨(some 5), none, .f (.mv (.t 4))⟩,
    .run ⟨(some 6), (some (5, true)), .f (.mv (.t 0))⟩,
    .run ⟨(some 7), (some (5, true)), .f (.nilCheck (.t 6))⟩,
    .run ⟨(some 8), (some (5, true)), .f (.fieldAddr 5 (.t 7))⟩,
    .run ⟨(some 9), (some (5, true)), .f (.load false 1 (.t 8))⟩,
    .run ⟨(some 10), (some (5, true)), .f (.un .not (.t 9))⟩,
    .run ⟨(some 11), none, .f (.pick (.t 5) (.t 10) (.c (.bool false)))⟩,
    .run ⟨(some 2), none, .f (.mv (.t 11))⟩])
   .ret))
theorem k_disk_Disk_On : chkFn Try.prog n_disk_Disk_On ⟨b_disk_Disk_On, [.tmp 2], 12⟩ = true := by kernel_rfl
/-- (*fascine/disk.Disk).Ops -/
abbrev n_disk_Disk_Ops : Nat := 33
def b_disk_Disk_Ops : Cd := (.seq (.reg [] [.run ⟨(some 2), none, .f (.mv (.c (.int .i64 0)))⟩])
   (.seq (.seq (.reg [] [.run ⟨(some 3), none, .f (.mv (.t 0))⟩,
    .run ⟨(some 4), none, .f (.eq false .ptr (.t 3) (.c (.ptr none)))⟩])
   (.ite (.t 4)
   (.seq (.reg [] [.run ⟨(some 2), none, .f (.mv (.c (.int .i64 0)))⟩])
   .ret)
   .skip))
   (.seq (.reg [] [.run ⟨(some 5), none, .f (.mv (.t 0))⟩,
    .run ⟨(some 6), none, .f (.nilCheck (.t 5))⟩,
    .run ⟨(some 7), none, .f (.fieldAddr 3 (.t 6))⟩,
    .run ⟨(some 8), none, .f (.load false 1 (.t 7))⟩,
    .run ⟨(some 2), none, .f (.mv (.t 8))⟩])
   .ret)))
theorem k_disk_Disk_Ops : chkFn Try.prog n_disk_Disk_Ops ⟨b_disk_Disk_Ops, [.tmp 2], 9⟩ = true := by kernel_rfl
/-- (*fascine/disk.Disk).Put -/
abbrev n_disk_Disk_Put : Nat := 25
def b_disk_Disk_Put : Cd := (.seq (.reg [] [.run ⟨(some 6), none, .f (.mv (.c (.int .i64 0)))⟩])
   (.seq (.reg [] [.run ⟨(some 7), none, .f (.mv (.t 0))⟩,
    .run ⟨(some 8), none, .f (.mv (.t 1))⟩,
    .run ⟨(some 9), none, .f (.mv (.t 2))⟩,
    .run ⟨(some 10), none, .e (.call 46 [(.t 7), (.t 8), (.t 9), (.c (.bool true))])⟩,
    .run ⟨(some 6), none, .f (.mv (.t 10))⟩])
   .ret))
theorem k_disk_Disk_Put : chkFn Try.prog n_disk_Disk_Put ⟨b_disk_Disk_Put, [.tmp 6], 11⟩ = true := by kernel_rfl
/-- (*fascine/disk.Disk).Read -/
abbrev n_disk_Disk_Read : Nat := 21
def b_disk_Disk_Read : Cd := (.seq (.reg [] [.run ⟨(some 4), none, .f (.mv (.c (.sl [] 0 1 .nil)))⟩,
    .run ⟨(some 5), none, .f (.mv (.c (.int .i64 0)))⟩])
   (.seq (.seq (.reg [] [.run ⟨(some 8), none, .f (.mv (.t 0))⟩,
    .run ⟨(some 9), none, .f (.mv (.t 1))⟩,
    .run ⟨(some 10), none, .e (.buildSlice 1 1 0 [(.str (mkS []))] [(0, 1, (.t 9))])⟩,
    .run ⟨(some 11), none, .e (.call 49 [(.t 8), (.t 10)])⟩,
    .run ⟨(some 6), none, .f (.mv (.t 11))⟩])
   (.seq (.reg [] [.run ⟨(some 12), none, .f (.mv (.t 6))⟩,
    .run ⟨(some 13), none, .f (.bin .neq (.t 12) (.c (.int .i64 0)))⟩])
   (.ite (.t 13)
   (.seq (.reg [] [.run ⟨(some 14), none, .f (.mv (.t 6))⟩,
    .run ⟨(some 4), none, .f (.mv (.c (.sl [] 0 1 .nil)))⟩,
    .run ⟨(some 5), none, .f (.mv (.t 14))⟩])
   .ret)
   .skip)))
   (.seq (.seq (.reg [] [.run ⟨(some 15), none, .f (.mv (.t 0))⟩,
    .run ⟨(some 16), none, .f (.nilCheck (.t 15))⟩,
    .run ⟨(some 17), none, .f (.fieldAddr 5 (.t 16))⟩,
    .run ⟨(some 18), none, .f (.load false 1 (.t 17))⟩])
   (.ite (.t 18)
   (.seq (.reg [] [.run ⟨(some 4), none, .f (.mv (.c (.sl [] 0 1 .nil)))⟩,
    .run ⟨(some 5), none, .f (.mv (.c (.int .i64 10)))⟩])
   .ret)
   .skip))
   (.seq (.reg [] [.run ⟨(some 19), none, .f (.mv (.t 0))⟩,
    .run ⟨(some 20), none, .f (.nilCheck (.t 19))⟩,
    .run ⟨(some 21), none, .f (.fieldAddr 0 (.t 20))⟩,
    .run ⟨(some 22), none, .f (.load false 1 (.t 21))⟩,
    .run ⟨(some 23), none, .f (.mv (.t 1))⟩,
    .run ⟨(some 24), none, .f (.lookup .str false (.ptr none) (.t 22) (.t 23))⟩,
    .run ⟨(some 7), none, .f (.mv (.t 24))⟩])
   (.seq (.seq (.reg [] [.run ⟨(some 25), none, .f (.mv (.t 7))⟩,
    .run ⟨(some 26), none, .f (.eq false .ptr (.t 25) (.c (.ptr none)))⟩])
   (.ite (.t 26)
   (.seq (.reg [] [.run ⟨(some 4), none, .f (.mv (.c (.sl [] 0 1 .nil)))⟩,
    .run ⟨(some 5), none, .f (.mv (.c (.int .i64 8)))⟩])
   .ret)
   .skip))
   (.seq (.reg [] [.run ⟨(some 27), none, .f (.mv (.t 7))⟩,
    .run ⟨(some 28), none, .f (.nilCheck (.t 27))⟩,
    .run ⟨(some 29), none, .f (.fieldAddr 0 (.t 28))⟩,
    .run ⟨(some 30), none, .f (.load false 1 (.t 29))⟩,
    .run ⟨(some 31), none, .e (.append 1 1 false (.c (.sl [] 0 1 .nil)) (.t 30))⟩,
    .run ⟨(some 4), none, .f (.mv (.t 31))⟩,
    .run ⟨(some 5), none, .f (.mv (.c (.int .i64 0)))⟩])
   .ret))))))
theorem k_disk_Disk_Read : chkFn Try.prog n_disk_Disk_Read ⟨b_disk_Disk_Read, [.tmp 4, .tmp 5], 32⟩ = true := by kernel_rfl
def b_disk_Disk_Read_v1 : Cd := (.seq (.reg [] [.run ⟨(some 4), none, .f (.mv (.c (.sl [] 0 1 .nil)))⟩,
    .run ⟨(some 5), none, .f (.mv (.c (.int .i64 0)))⟩])
   (.seq (.seq (.reg [] [.run ⟨(some 8), none, .f (.mv (.t 0))⟩,
    .run ⟨(some 9), none, .f (.mv (.t 1))⟩,
    .run ⟨(some 10), none, .e (.buildSlice 1 1 0 [(.str (mkS []))] [(0, 1, (.t 9))])⟩,
    .run ⟨(some 11), none, .e (.call 49 [(.t 8), (.t 10)])⟩,
    .run ⟨(some 6), none, .f (.mv (.t 11))⟩])
   (.seq (.reg [] [.run ⟨(some 12), none, .f (.mv (.t 6))⟩,
    .run ⟨(some 13), none, .f (.bin .neq (.t 12) (.c (.int .i64 0)))⟩])
   (.ite (.t 13)
   (.seq (.reg [] [.run ⟨(some 14), none, .f (.mv (.t 6))⟩,
    .run ⟨(some 4), none, .f (.mv (.c (.sl [] 0 1 .nil)))⟩,
    .run ⟨(some 5), none, .f (.mv (.t 14))⟩])
   .ret)
   .skip)))
   (.seq (.seq (.reg [] [.run ⟨(some 15), none, .f (.mv (.t 0))⟩,
    .run ⟨(some 16), none, .f (.nilCheck (.t 15))⟩,
    .run ⟨(some 17), none, .f (.fieldAddr 5 (.t 16))⟩,
    .run ⟨(some 18), none, .f (.load false 1 (.t 17))⟩])
   (.ite (.t 18)
   (.seq (.reg [] [.run ⟨(some 4), none, .f (.mv (.c (.sl [] 0 1 .nil)))⟩,
    .run ⟨(some 5), none, .f (.mv (.c (.int .i64 10)))⟩])
   .ret)
   .skip))
   (.seq (.reg [] [.run ⟨(some 19), none, .f (.mv (.t 0))⟩,
    .run ⟨(some 20), none, .f (.nilCheck (.t 19))⟩,
    .run ⟨(some 21), none, .f (.fieldAddr 0 (.t 20))⟩,
    .run ⟨(some 22), none, .f (.load false 1 (.t 21))⟩,
    .run ⟨(some 23), none, .f (.mv (.t 1))⟩,
    .run ⟨(some 24), none, .f (.lookup .str false (.ptr none) (.t 22) (.t 23))⟩,
    .run ⟨(some 7), none, .f (.mv (.t 24))⟩])
   (.seq (.seq (.reg [] [.run ⟨(some 25), none, .f (.mv (.t 7))⟩,
    .run ⟨(some 26), none, .f (.eq false .ptr (.t 25) (.c (.ptr none)))⟩])
   (.ite (.t 26)
   (.seq (.reg [] [.run ⟨(some 4), none, .f (.mv (.c (.sl [] 0 1 .nil)))⟩,
    .run ⟨(some 5), none, .f (.mv (.c (.int .i64 8)))⟩])
   .ret)
   .skip))
   (.seq (.reg [] [.run ⟨(some 27), none, .f (.mv (.t 7))⟩,
    .run ⟨(some 28), none, .f (.nilCheck (.t 27))⟩,
    .run ⟨(some 29), none, .f (.fieldAddr 0 (.t 28))⟩,
    .run ⟨(some 30), none, .f (.load false 1 (.t 29))⟩,
    .run ⟨(some 31), none, .e (.append 1 1 true (.c (.sl [] 0 1 .nil)) (.t 30))⟩,
    .run ⟨(some 4), none, .f (.mv (.t 31))⟩,
    .run ⟨(some 5), none, .f (.mv (.c (.int .i64 0)))⟩])
   .ret))))))
theorem k_disk_Disk_Read_v1 : chkFn Try.prog n_disk_Disk_Read ⟨b_disk_Disk_Read_v1, [.tmp 4, .tmp 5], 32⟩ = true := by kernel_rfl
/-- (*fascine/disk.Disk).Remove -/
abbrev n_disk_Disk_Remove : Nat := 32
def b_disk_Disk_Remove : Cd := (.seq (.reg [] [.run ⟨(some 2), none, .e (.box (.t 0))⟩,
    .run ⟨(some 3), none, .e (.box (.t 1))⟩,
    .run ⟨(some 4), none, .f (.mv (.c (.int .i64 0)))⟩])
   (.seq (.reg [] [.run ⟨(some 5), none, .f (.load false 1 (.t 2))⟩,
    .run ⟨(some 6), none, .f (.load false 1 (.t 3))⟩,
    .run ⟨(some 7), none, .f (.mkFunc 60 [] [(.t 2), (.t 3)])⟩,
    .run ⟨(some 8), none, .e (.call 47 [(.t 5), (.t 6), (.t 7)])⟩,
    .run ⟨(some 4), none, .f (.mv (.t 8))⟩])
   .ret))
theorem k_disk_Disk_Remove : chkFn Try.prog n_disk_Disk_Remove ⟨b_disk_Disk_Remove, [.tmp 4], 9⟩ = true := by kernel_rfl
/-- (*fascine/disk.Disk).Remove$1 -/
abbrev n_disk_Disk_Remove_1 : Nat := 60
def b_disk_Disk_Remove_1 : Cd := (.seq (.reg [0, 1, 2, 3, 4, 5, 6, 7, 8, 9, 10, 11, 12] [.run ⟨(some 4), none, .f (.load false 1 (.t 1))⟩,
    .run ⟨(some 5), none, .f (.nilCheck (.t 4))⟩,
    .run ⟨(some 6), none, .f (.fieldAddr 2 (.t 5))⟩,
    .run ⟨(some 7), none, .f (.load false 1 (.t 6))⟩,
    .run ⟨(some 8), none, .f (.mv (.t 0))⟩,
    .run ⟨(some 9), none, .f (.nilCheck (.t 8))⟩,
    .run ⟨(some 10), none, .f (.fieldAddr 0 (.t 9))⟩,
    .run ⟨(some 11), none, .f (.load false 1 (.t 10))⟩,
    .run ⟨(some 12), none, .f (.len .sl (.t 11))⟩,
    .run ⟨(some 13), none, .f (.bin .sub (.t 7) (.t 12))⟩,
    .run ⟨(some 14), none, .f (.nilCheck (.t 4))⟩,
    .run ⟨(some 15), none, .f (.fieldAddr 2 (.t 14))⟩,
    .run ⟨none, none, .e (.store 1 (.t 15) (.t 13))⟩])
   (.reg [0, 1, 2, 3, 4, 5] [.run ⟨(some 16), none, .f (.load false 1 (.t 1))⟩,
    .run ⟨(some 17), none, .f (.nilCheck (.t 16))⟩,
    .run ⟨(some 18), none, .f (.fieldAddr 0 (.t 17))⟩,
    .run ⟨(some 19), none, .f (.load false 1 (.t 18))⟩,
    .run ⟨(some 20), none, .f (.load false 1 (.t 2))⟩,
    .run ⟨none, none, .e (.delete .str (.t 19) (.t 20))⟩]))
theorem k_disk_Disk_Remove_1 : chkFn Try.prog n_disk_Disk_Remove_1 ⟨b_disk_Disk_Remove_1, [], 21⟩ = true := by kernel_rfl
/-- (*fascine/disk.Disk).Rename -/
abbrev n_disk_Disk_Rename : Nat := 26
def b_disk_Disk_Rename : Cd := (.seq (.reg [] [.run ⟨(some 3), none, .e (.box (.t 0))⟩,
    .run ⟨(some 4), none, .e (.box (.t 1))⟩,
    .run ⟨(some 5), none, .e (.box (.t 2))⟩,
    .run ⟨(some 6), none, .f (.mv (.c (.int .i64 0)))⟩])
   (.seq (.seq (.reg [] [.run ⟨(some 9), none, .f (.load false 1 (.t 3))⟩,
    .run ⟨(some 10), none, .f (.load false 1 (.t 4))⟩,
    .run ⟨(some 11), none, .f (.load false 1 (.t 5))⟩,
    .run ⟨(some 12), none, .e (.buildSlice 2 1 0 [(.str (mkS [])), (.str (mkS []))] [(0, 1, (.t 10)), (1, 1, (.t 11))])⟩,
    .run ⟨(some 13), none, .e (.call 49 [(.t 9), (.t 12)])⟩,
    .run ⟨(some 7), none, .f (.mv (.t 13))⟩])
   (.seq (.reg [] [.run ⟨(some 14), none, .f (.mv (.t 7))⟩,
    .run ⟨(some 15), none, .f (.bin .neq (.t 14) (.c (.int .i64 0)))⟩])
   (.ite (.t 15)
   (.seq (.reg [] [.run ⟨(some 16), none, .f (.mv (.t 7))⟩,
    .run ⟨(some 6), none, .f (.mv (.t 16))⟩])
   .ret)
   .skip)))
   (.seq (.seq (.reg [] [.run ⟨(some 17), none, .f (.load false 1 (.t 4))⟩,
    .run ⟨(some 18), none, .f (.load false 1 (.t 5))⟩,
    .run ⟨(some 19), none, .f (.bin .eql (.t 17) (.t 18))⟩])
   (.ite (.t 19)
   (.seq (.reg [] [.run ⟨(some 6), none, .f (.mv (.c (.int .i64 1)))⟩])
   .ret)
   .skip))
   (.seq (.seq (.reg [0, 1, 2, 3, 4, 5, 6] [.run ⟨(some 20), none, .f (.load false 1 (.t 3))⟩,
    .run ⟨(some 21), none, .f (.nilCheck (.t 20))⟩,
    .run ⟨(some 22), none, .f (.fieldAddr 0 (.t 21))⟩,
    .run ⟨(some 23), none, .f (.load false 1 (.t 22))⟩,
    .run ⟨(some 24), none, .f (.load false 1 (.t 4))⟩,
    .run ⟨(some 25), none, .f (.lookup .str false (.ptr none) (.t 23) (.t 24))⟩,
    .run ⟨(some 8), none, .f (.mv (.t 25))⟩])
   (.seq (.reg [0, 1, 2, 3, 4, 5, 6, 7, 8, 9, 10, 11, 12, 13, 14, 15, 16, 17, 18, 19, 20] [.run ⟨(some 26), none, .f (.load false 1 (.t 3))⟩,
    .run ⟨(some 27), none, .f (.nilCheck (.t 26))⟩,
    .run ⟨(some 28), none, .f (.fieldAddr 5 (.t 27))⟩,
    .run ⟨(some 29), none, .f (.load false 1 (.t 28))⟩,
    .run ⟨(some 30), none, .f (.un .not (.t 29))⟩,
    .run ⟨(some 31), none, .f (.mv (.t 30))⟩,
    .run ⟨(some 32), (some (31, true)), .f (.mv (.t 8))⟩,
    .run ⟨(some 33), (some (31, true)), .f (.eq true .ptr (.t 32) (.c (.ptr none)))⟩,
    .run ⟨(some 34), none, .f (.pick (.t 31) (.t 33) (.c (.bool false)))⟩,
    .run ⟨(some 35), none, .f (.mv (.t 34))⟩,
    .run ⟨(some 36), (some (35, true)), .f (.mv (.t 8))⟩,
    .run ⟨(some 37), (some (35, true)), .f (.nilCheck (.t 36))⟩,
    .run ⟨(some 38), (some (35, true)), .f (.fieldAddr 1 (.t 37))⟩,
    .run ⟨(some 39), (some (35, true)), .f (.load false 1 (.t 38))⟩,
    .run ⟨(some 40), (some (35, true)), .f (.mv (.t 8))⟩,
    .run ⟨(some 41), (some (35, true)), .f (.nilCheck (.t 40))⟩,
    .run ⟨(some 42), (some (35, true)), .f (.fieldAddr 0 (.t 41))⟩,
    .run ⟨(some 43), (some (35, true)), .f (.load false 1 (.t 42))⟩,
    .run ⟨(some 44), (some (35, true)), .f (.len .sl (.t 43))⟩,
    .run ⟨(some 45), (some (35, true)), .f (.bin .lss (.t 39) (.t 44))⟩,
    .run ⟨(some 46), none, .f (.pick (.t 35) (.t 45) (.c (.bool false)))⟩])
   (.ite (.t 46)
   (.seq (.reg [] [.run ⟨(some 6), none, .f (.mv (.c (.int .i64 12)))⟩])
   .ret)
   .skip)))
   (.seq (.reg [] [.run ⟨(some 47), none, .f (.load false 1 (.t 3))⟩,
    .run ⟨(some 48), none, .f (.load false 1 (.t 4))⟩,
    .run ⟨(some 49), none, .f (.mkFunc 50 [] [(.t 3), (.t 4), (.t 5)])⟩,
    .run ⟨(some 50), none, .e (.call 47 [(.t 47), (.t 48), (.t 49)])⟩,
    .run ⟨(some 6), none, .f (.mv (.t 50))⟩])
   .ret)))))
theorem k_disk_Disk_Rename : chkFn Try.prog n_disk_Disk_Rename ⟨b_disk_Disk_Rename, [.tmp 6], 51⟩ = true := by kernel_rfl
/-- (*fascine/disk.Disk).Rename$1 -/
abbrev n_disk_Disk_Rename_1 : Nat := 50
def b_disk_Disk_Rename_1 : Cd := (.seq (.reg [0, 1, 2, 3, 4, 5] [.run ⟨(some 6), none, .f (.load false 1 (.t 1))⟩,
    .run ⟨(some 7), none, .f (.nilCheck (.t 6))⟩,
    .run ⟨(some 8), none, .f (.fieldAddr 0 (.t 7))⟩,
    .run ⟨(some 9), none, .f (.load false 1 (.t 8))⟩,
    .run ⟨(some 10), none, .f (.load false 1 (.t 2))⟩,
    .run ⟨none, none, .e (.delete .str (.t 9) (.t 10))⟩])
   (.seq (.seq (.reg [0, 1, 2, 3, 4, 5, 6] [.run ⟨(some 11), none, .f (.load false 1 (.t 1))⟩,
    .run ⟨(some 12), none, .f (.nilCheck (.t 11))⟩,
    .run ⟨(some 13), none, .f (.fieldAddr 0 (.t 12))⟩,
    .run ⟨(some 14), none, .f (.load false 1 (.t 13))⟩,
    .run ⟨(some 15), none, .f (.load false 1 (.t 3))⟩,
    .run ⟨(some 16), none, .f (.lookup .str false (.ptr none) (.t 14) (.t 15))⟩,
    .run ⟨(some 5), none, .f (.mv (.t 16))⟩])
   (.seq (.reg [] [.run ⟨(some 17), none, .f (.mv (.t 5))⟩,
    .run ⟨(some 18), none, .f (.eq true .ptr (.t 17) (.c (.ptr none)))⟩])
   (.ite (.t 18)
   (.reg [0, 1, 2, 3, 4, 5, 6, 7, 8, 9, 10, 11, 12] [.run ⟨(some 19), none, .f (.load false 1 (.t 1))⟩,
    .run ⟨(some 20), none, .f (.nilCheck (.t 19))⟩,
    .run ⟨(some 21), none, .f (.fieldAddr 2 (.t 20))⟩,
    .run ⟨(some 22), none, .f (.load false 1 (.t 21))⟩,
    .run ⟨(some 23), none, .f (.mv (.t 5))⟩,
    .run ⟨(some 24), none, .f (.nilCheck (.t 23))⟩,
    .run ⟨(some 25), none, .f (.fieldAddr 0 (.t 24))⟩,
    .run ⟨(some 26), none, .f (.load false 1 (.t 25))⟩,
    .run ⟨(some 27), none, .f (.len .sl (.t 26))⟩,
    .run ⟨(some 28), none, .f (.bin .sub (.t 22) (.t 27))⟩,
    .run ⟨(some 29), none, .f (.nilCheck (.t 19))⟩,
    .run ⟨(some 30), none, .f (.fieldAddr 2 (.t 29))⟩,
    .run ⟨none, none, .e (.store 1 (.t 30) (.t 28))⟩])
   .skip)))
   (.reg [0, 1, 2, 3, 4, 5, 6] [.run ⟨(some 31), none, .f (.load false 1 (.t 1))⟩,
    .run ⟨(some 32), none, .f (.nilCheck (.t 31))⟩,
    .run ⟨(some 33), none, .f (.fieldAddr 0 (.t 32))⟩,
    .run ⟨(some 34), none, .f (.load false 1 (.t 33))⟩,
    .run ⟨(some 35), none, .f (.load false 1 (.t 3))⟩,
    .run ⟨(some 36), none, .f (.mv (.t 0))⟩,
    .run ⟨none, none, .e (.mapSet .str (.t 34) (.t 35) (.t 36))⟩])))
theorem k_disk_Disk_Rename_1 : chkFn Try.prog n_disk_Disk_Rename_1 ⟨b_disk_Disk_Rename_1, [], 37⟩ = true := by kernel_rfl
/-- (*fascine/disk.Disk).Restart -/
abbrev n_disk_Disk_Restart : Nat := 22
def r_disk_Disk_Restart_0 : Cd := (.seq (.reg [0, 1, 2, 3, 4, 5, 6, 7, 8, 9, 10, 11, 12, 13, 14, 15, 16, 17, 18, 19] [.run ⟨(some 45), none, .f (.mv (.t 0))⟩,
    .run ⟨(some 46), none, .f (.nilCheck (.t 45))⟩,
    .run ⟨(some 47), none, .f (.fieldAddr 2 (.t 46))⟩,
    .run ⟨(some 48), none, .f (.load false 1 (.t 47))⟩,
    .run ⟨(some 49), none, .f (.mv (.t 7))⟩,
    .run ⟨(some 50), none, .f (.nilCheck (.t 49))⟩,
    .run ⟨(some 51), none, .f (.fieldAddr 0 (.t 50))⟩,
    .run ⟨(some 52), none, .f (.load false 1 (.t 51))⟩,
    .run ⟨(some 53), none, .f (.len .sl (.t 52))⟩,
    .run ⟨(some 54), none, .f (.mv (.t 7))⟩,
    .run ⟨(some 55), none, .f (.nilCheck (.t 54))⟩,
    .run ⟨(some 56), none, .f (.fieldAddr 1 (.t 55))⟩,
    .run ⟨(some 57), none, .f (.load false 1 (.t 56))⟩,
    .run ⟨(some 58), none, .f (.bin .sub (.t 53) (.t 57))⟩,
    .run ⟨(some 59), none, .f (.mv (.t 8))⟩,
    .run ⟨(some 60), none, .f (.bin .sub (.t 58) (.t 59))⟩,
    .run ⟨(some 61), none, .f (.bin .sub (.t 48) (.t 60))⟩,
    .run ⟨(some 62), none, .f (.nilCheck (.t 45))⟩,
    .run ⟨(some 63), none, .f (.fieldAddr 2 (.t 62))⟩,
    .run ⟨none, none, .e (.store 1 (.t 63) (.t 61))⟩])
   (.seq (.reg [0, 1, 2, 3, 4, 5, 6, 7, 8, 9, 10, 11, 12, 13, 14, 15] [.run ⟨(some 64), none, .f (.mv (.t 7))⟩,
    .run ⟨(some 65), none, .f (.mv (.t 7))⟩,
    .run ⟨(some 66), none, .f (.nilCheck (.t 65))⟩,
    .run ⟨(some 67), none, .f (.fieldAddr 0 (.t 66))⟩,
    .run ⟨(some 68), none, .f (.load false 1 (.t 67))⟩,
    .run ⟨(some 69), none, .f (.mv (.t 7))⟩,
    .run ⟨(some 70), none, .f (.nilCheck (.t 69))⟩,
    .run ⟨(some 71), none, .f (.fieldAddr 1 (.t 70))⟩,
    .run ⟨(some 72), none, .f (.load false 1 (.t 71))⟩,
    .run ⟨(some 73), none, .f (.mv (.t 8))⟩,
    .run ⟨(some 74), none, .f (.bin .add (.t 72) (.t 73))⟩,
    .run ⟨(some 75), none, .f (.slice 1 (.t 68) none (some (.t 74)) none)⟩,
    .run ⟨(some 76), none, .e (.append 1 1 false (.c (.sl [] 0 1 .nil)) (.t 75))⟩,
    .run ⟨(some 77), none, .f (.nilCheck (.t 64))⟩,
    .run ⟨(some 78), none, .f (.fieldAddr 0 (.t 77))⟩,
    .run ⟨none, none, .e (.store 1 (.t 78) (.t 76))⟩])
   (.reg [] [.run ⟨(some 79), none, .f (.mv (.t 7))⟩,
    .run ⟨(some 80), none, .f (.mv (.t 7))⟩,
    .run ⟨(some 81), none, .f (.nilCheck (.t 80))⟩,
    .run ⟨(some 82), none, .f (.fieldAddr 0 (.t 81))⟩,
    .run ⟨(some 83), none, .f (.load false 1 (.t 82))⟩,
    .run ⟨(some 84), none, .f (.len .sl (.t 83))⟩,
    .run ⟨(some 85), none, .f (.nilCheck (.t 79))⟩,
    .run ⟨(some 86), none, .f (.fieldAddr 1 (.t 85))⟩,
    .run ⟨none, none, .e (.store 1 (.t 86) (.t 84))⟩])))
def k_disk_Disk_Restart_0 : Cd := (.seq (.reg [] [.run ⟨(some 16), none, .f (.mv (.t 14))⟩,
    .run ⟨(some 17), none, .f (.indexAddr 1 (.t 12) (.t 14))⟩,
    .run ⟨(some 18), none, .f (.load false 1 (.t 17))⟩,
    .run ⟨(some 5), none, .f (.mv (.t 16))⟩,
    .run ⟨(some 6), none, .f (.mv (.t 18))⟩])
   (.seq (.reg [] [.run ⟨(some 19), none, .f (.mv (.t 0))⟩,
    .run ⟨(some 20), none, .f (.nilCheck (.t 19))⟩,
    .run ⟨(some 21), none, .f (.fieldAddr 0 (.t 20))⟩,
    .run ⟨(some 22), none, .f (.load false 1 (.t 21))⟩,
    .run ⟨(some 23), none, .f (.mv (.t 6))⟩,
    .run ⟨(some 24), none, .f (.lookup .str false (.ptr none) (.t 22) (.t 23))⟩,
    .run ⟨(some 7), none, .f (.mv (.t 24))⟩,
    .run ⟨(some 8), none, .f (.mv (.c (.int .i64 0)))⟩])
   (.seq (.seq (.reg [] [.run ⟨(some 25), none, .f (.mv (.t 5))⟩,
    .run ⟨(some 26), none, .f (.mv (.t 1))⟩,
    .run ⟨(some 27), none, .f (.len .sl (.t 26))⟩,
    .run ⟨(some 28), none, .f (.bin .lss (.t 25) (.t 27))⟩])
   (.ite (.t 28)
   (.reg [0, 1, 2, 3, 4, 5, 6, 7, 8, 9, 10, 11, 12, 13, 14, 15, 16] [.run ⟨(some 29), none, .f (.mv (.t 1))⟩,
    .run ⟨(some 30), none, .f (.mv (.t 5))⟩,
    .run ⟨(some 31), none, .f (.indexAddr 1 (.t 29) (.t 30))⟩,
    .run ⟨(some 32), none, .f (.load false 1 (.t 31))⟩,
    .run ⟨(some 33), none, .f (.mv (.t 7))⟩,
    .run ⟨(some 34), none, .f (.nilCheck (.t 33))⟩,
    .run ⟨(some 35), none, .f (.fieldAddr 0 (.t 34))⟩,
    .run ⟨(some 36), none, .f (.load false 1 (.t 35))⟩,
    .run ⟨(some 37), none, .f (.len .sl (.t 36))⟩,
    .run ⟨(some 38), none, .f (.mv (.t 7))⟩,
    .run ⟨(some 39), none, .f (.nilCheck (.t 38))⟩,
    .run ⟨(some 40), none, .f (.fieldAddr 1 (.t 39))⟩,
    .run ⟨(some 41), none, .f (.load false 1 (.t 40))⟩,
    .run ⟨(some 42), none, .f (.bin .sub (.t 37) (.t 41))⟩,
    .run ⟨(some 43), none, .f (.minmax false [(.t 32), (.t 42)])⟩,
    .run ⟨(some 44), none, .f (.minmax true [(.c (.int .i64 0)), (.t 43)])⟩,
    .run ⟨(some 8), none, .f (.mv (.t 44))⟩])
   .skip))
   r_disk_Disk_Restart_0)))
def l_disk_Disk_Restart_0 : Cd := (.seq (.reg [] [.run ⟨(some 15), none, .f (.bin .lss (.t 14) (.t 13))⟩])
   (.seq (.ite (.t 15)
   .skip
   (.exit 0))
   (.seq (.blk 1 k_disk_Disk_Restart_0)
   (.reg [] [.run ⟨(some 87), none, .f (.bin .add (.t 14) (.c (.int .i64 1)))⟩,
    .run ⟨(some 14), none, .f (.mv (.t 87))⟩]))))
def s_disk_Disk_Restart_0 : Cd := (.seq (.reg [] [.run ⟨(some 88), none, .f (.mv (.t 0))⟩,
    .run ⟨(some 89), none, .f (.mv (.t 0))⟩,
    .run ⟨(some 90), none, .f (.nilCheck (.t 88))⟩,
    .run ⟨(some 91), none, .f (.fieldAddr 5 (.t 90))⟩,
    .run ⟨none, none, .e (.store 1 (.t 91) (.c (.bool false)))⟩,
    .run ⟨(some 92), none, .f (.nilCheck (.t 89))⟩,
    .run ⟨(some 93), none, .f (.fieldAddr 4 (.t 92))⟩,
    .run ⟨none, none, .e (.store 1 (.t 93) (.c (.int .i64 0)))⟩])
   (.seq (.reg [] [.run ⟨(some 4), none, .f (.mv (.c (.int .i64 0)))⟩])
   .ret))
def b_disk_Disk_Restart : Cd := (.seq (.reg [] [.run ⟨(some 4), none, .f (.mv (.c (.int .i64 0)))⟩])
   (.seq (.seq (.reg [] [.run ⟨(some 9), none, .f (.mv (.t 0))⟩,
    .run ⟨(some 10), none, .f (.eq false .ptr (.t 9) (.c (.ptr none)))⟩])
   (.ite (.t 10)
   (.seq (.reg [] [.run ⟨(some 4), none, .f (.mv (.c (.int .i64 8)))⟩])
   .ret)
   .skip))
   (.seq (.seq (.reg [] [.run ⟨(some 11), none, .f (.mv (.t 0))⟩,
    .run ⟨(some 12), none, .e (.call 28 [(.t 11)])⟩,
    .run ⟨(some 13), none, .f (.len .sl (.t 12))⟩,
    .run ⟨(some 14), none, .f (.mv (.c (.int .i64 0)))⟩])
   (.blk 0 (.loop l_disk_Disk_Restart_0)))
   s_disk_Disk_Restart_0)))
theorem k_disk_Disk_Restart : chkFn Try.prog n_disk_Disk_Restart ⟨b_disk_Disk_Restart, [.tmp 4], 94⟩ = true := by kernel_rfl
/-- (*fascine/disk.Disk).Sure -/
abbrev n_disk_Disk_Sure : Nat := 23
def b_disk_Disk_Sure : Cd := (.seq (.reg [] [.run ⟨(some 4), none, .f (.mv (.c (.int .i64 0)))⟩])
   (.seq (.seq (.reg [] [.run ⟨(some 5), none, .f (.mv (.t 0))⟩,
    .run ⟨(some 6), none, .f (.eq false .ptr (.t 5) (.c (.ptr none)))⟩,
    .run ⟨(some 7), none, .f (.mv (.t 6))⟩,
    .run ⟨(some 8), (some (7, false)), .f (.mv (.t 0))⟩,
    .run ⟨(some 9), (some (7, false)), .f (.nilCheck (.t 8))⟩,
    .run ⟨(some 10), (some (7, false)), .f (.fieldAddr 0 (.t 9))⟩,
    .run ⟨(some 11), (some (7, false)), .f (.load false 1 (.t 10))⟩,
    .run ⟨(some 12), (some (7, false)), .f (.mv (.t 1))⟩,
    .run ⟨(some 13), (some (7, false)), .f (.lookup .str false (.ptr none) (.t 11) (.t 12))⟩,
    .run ⟨(some 14), (some (7, false)), .f (.eq false .ptr (.t 13) (.c (.ptr none)))⟩,
    .run ⟨(some 15), none, .f (.pick (.t 7) (.c (.bool true)) (.t 14))⟩])
   (.ite (.t 15)
   (.seq (.reg [] [.run ⟨(some 4), none, .f (.mv (.c (.int .i64 0)))⟩])
   .ret)
   .skip))
   (.seq (.reg [] [.run ⟨(some 16), none, .f (.mv (.t 0))⟩,
    .run ⟨(some 17), none, .f (.nilCheck (.t 16))⟩,
    .run ⟨(some 18), none, .f (.fieldAddr 0 (.t 17))⟩,
    .run ⟨(some 19), none, .f (.load false 1 (.t 18))⟩,
    .run ⟨(some 20), none, .f (.mv (.t 1))⟩,
    .run ⟨(some 21), none, .f (.lookup .str false (.ptr none) (.t 19) (.t 20))⟩,
    .run ⟨(some 22), none, .f (.nilCheck (.t 21))⟩,
    .run ⟨(some 23), none, .f (.fieldAddr 1 (.t 22))⟩,
    .run ⟨(some 24), none, .f (.load false 1 (.t 23))⟩,
    .run ⟨(some 4), none, .f (.mv (.t 24))⟩])
   .ret)))
theorem k_disk_Disk_Sure : chkFn Try.prog n_disk_Disk_Sure ⟨b_disk_Disk_Sure, [.tmp 4], 25⟩ = true := by kernel_rfl
/-- (*fascine/disk.Disk).Sync -/
abbrev n_disk_Disk_Sync : Nat := 20
def b_disk_Disk_Sync : Cd := (.seq (.reg [] [.run ⟨(some 4), none, .f (.mv (.c (.int .i64 0)))⟩])
   (.seq (.reg [] [.run ⟨(some 5), none, .f (.mv (.t 0))⟩,
    .run ⟨(some 6), none, .f (.mv (.t 1))⟩,
    .run ⟨(some 7), none, .e (.call 47 [(.t 5), (.t 6), (.c (.func 48 [] []))])⟩,
    .run ⟨(some 4), none, .f (.mv (.t 7))⟩])
   .ret))
theorem k_disk_Disk_Sync : chkFn Try.prog n_disk_Disk_Sync ⟨b_disk_Disk_Sync, [.tmp 4], 8⟩ = true := by kernel_rfl
/-- (*fascine/disk.Disk).Sync$1 -/
abbrev n_disk_Disk_Sync_1 : Nat := 48
def b_disk_Disk_Sync_1 : Cd := (.reg [] [.run ⟨(some 2), none, .f (.mv (.t 0))⟩,
    .run ⟨(some 3), none, .f (.mv (.t 0))⟩,
    .run ⟨(some 4), none, .f (.nilCheck (.t 3))⟩,
    .run ⟨(some 5), none, .f (.fieldAddr 0 (.t 4))⟩,
    .run ⟨(some 6), none, .f (.load false 1 (.t 5))⟩,
    .run ⟨(some 7), none, .f (.len .sl (.t 6))⟩,
    .run ⟨(some 8), none, .f (.nilCheck (.t 2))⟩,
    .run ⟨(some 9), none, .f (.fieldAddr 1 (.t 8))⟩,
    .run ⟨none, none, .e (.store 1 (.t 9) (.t 7))⟩])
theorem k_disk_Disk_Sync_1 : chkFn Try.prog n_disk_Disk_Sync_1 ⟨b_disk_Disk_Sync_1, [], 10⟩ = true := by kernel_rfl
/-- (*fascine/disk.Disk).Used -/
abbrev n_disk_Disk_Used : Nat := 30
def b_disk_Disk_Used : Cd := (.seq (.reg [] [.run ⟨(some 2), none, .f (.mv (.c (.int .i64 0)))⟩])
   (.seq (.seq (.reg [] [.run ⟨(some 3), none, .f (.mv (.t 0))⟩,
    .run ⟨(some 4), none, .f (.eq false .ptr (.t 3) (.c (.ptr none)))⟩])
   (.ite (.t 4)
   (.seq (.reg [] [.run ⟨(some 2), none, .f (.mv (.c (.int .i64 0)))⟩])
   .ret)
   .skip))
   (.seq (.reg [] [.run ⟨(some 5), none, .f (.mv (.t 0))⟩,
    .run ⟨(some 6), none, .f (.nilCheck (.t 5))⟩,
    .run ⟨(some 7), none, .f (.fieldAddr 2 (.t 6))⟩,
    .run ⟨(some 8), none, .f (.load false 1 (.t 7))⟩,
    .run ⟨(some 2), none, .f (.mv (.t 8))⟩])
   .ret)))
theorem k_disk_Disk_Used : chkFn Try.prog n_disk_Disk_Used ⟨b_disk_Disk_Used, [.tmp 2], 9⟩ = true := by kernel_rfl
/-- (*fascine/disk.Disk).begin -/
abbrev n_disk_Disk_begin : Nat := 66
def b_disk_Disk_begin : Cd := (.seq (.reg [] [.run ⟨(some 2), none, .f (.mv (.c (.bool false)))⟩,
    .run ⟨(some 3), none, .f (.mv (.c (.int .i64 0)))⟩])
   (.seq (.seq (.reg [] [.run ⟨(some 4), none, .f (.mv (.t 0))⟩,
    .run ⟨(some 5), none, .f (.nilCheck (.t 4))⟩,
    .run ⟨(some 6), none, .f (.fieldAddr 5 (.t 5))⟩,
    .run ⟨(some 7), none, .f (.load false 1 (.t 6))⟩])
   (.ite (.t 7)
   (.seq (.reg [] [.run ⟨(some 2), none, .f (.mv (.c (.bool false)))⟩,
    .run ⟨(some 3), none, .f (.mv (.c (.int .i64 10)))⟩])
   .ret)
   .skip))
   (.seq (.reg [] [.run ⟨(some 8), none, .f (.mv (.t 0))⟩,
    .run ⟨(some 9), none, .f (.nilCheck (.t 8))⟩,
    .run ⟨(some 10), none, .f (.fieldAddr 3 (.t 9))⟩,
    .run ⟨(some 11), none, .f (.load false 1 (.t 10))⟩,
    .run ⟨(some 12), none, .f (.bin .add (.t 11) (.c (.int .i64 1)))⟩,
    .run ⟨(some 13), none, .f (.nilCheck (.t 8))⟩,
    .run ⟨(some 14), none, .f (.fieldAddr 3 (.t 13))⟩,
    .run ⟨none, none, .e (.store 1 (.t 14) (.t 12))⟩])
   (.seq (.seq (.reg [] [.run ⟨(some 15), none, .f (.mv (.t 0))⟩,
    .run ⟨(some 16), none, .f (.nilCheck (.t 15))⟩,
    .run ⟨(some 17), none, .f (.fieldAddr 4 (.t 16))⟩,
    .run ⟨(some 18), none, .f (.load false 1 (.t 17))⟩,
    .run ⟨(some 19), none, .f (.bin .gtr (.t 18) (.c (.int .i64 0)))⟩])
   (.ite (.t 19)
   (.seq (.reg [] [.run ⟨(some 20), none, .f (.mv (.t 0))⟩,
    .run ⟨(some 21), none, .f (.nilCheck (.t 20))⟩,
    .run ⟨(some 22), none, .f (.fieldAddr 4 (.t 21))⟩,
    .run ⟨(some 23), none, .f (.load false 1 (.t 22))⟩,
    .run ⟨(some 24), none, .f (.bin .sub (.t 23) (.c (.int .i64 1)))⟩,
    .run ⟨(some 25), none, .f (.nilCheck (.t 20))⟩,
    .run ⟨(some 26), none, .f (.fieldAddr 4 (.t 25))⟩,
    .run ⟨none, none, .e (.store 1 (.t 26) (.t 24))⟩])
   (.reg [] [.run ⟨(some 27), none, .f (.mv (.t 0))⟩,
    .run ⟨(some 28), none, .f (.mv (.t 0))⟩,
    .run ⟨(some 29), none, .f (.nilCheck (.t 28))⟩,
    .run ⟨(some 30), none, .f (.fieldAddr 4 (.t 29))⟩,
    .run ⟨(some 31), none, .f (.load false 1 (.t 30))⟩,
    .run ⟨(some 32), none, .f (.bin .eql (.t 31) (.c (.int .i64 0)))⟩,
    .run ⟨(some 33), none, .f (.nilCheck (.t 27))⟩,
    .run ⟨(some 34), none, .f (.fieldAddr 5 (.t 33))⟩,
    .run ⟨none, none, .e (.store 1 (.t 34) (.t 32))⟩]))
   .skip))
   (.seq (.reg [] [.run ⟨(some 35), none, .f (.mv (.t 0))⟩,
    .run ⟨(some 36), none, .f (.nilCheck (.t 35))⟩,
    .run ⟨(some 37), none, .f (.fieldAddr 5 (.t 36))⟩,
    .run ⟨(some 38), none, .f (.load false 1 (.t 37))⟩,
    .run ⟨(some 2), none, .f (.mv (.t 38))⟩,
    .run ⟨(some 3), none, .f (.mv (.c (.int .i64 0)))⟩])
   .ret)))))
theorem k_disk_Disk_begin : chkFn Try.prog n_disk_Disk_begin ⟨b_disk_Disk_begin, [.tmp 2, .tmp 3], 39⟩ = true := by kernel_rfl
/-- (*fascine/disk.Disk).change -/
abbrev n_disk_Disk_change : Nat := 47
def b_disk_Disk_change : Cd := (.seq (.reg [] [.run ⟨(some 6), none, .f (.mv (.c (.int .i64 0)))⟩])
   (.seq (.seq (.reg [] [.run ⟨(some 11), none, .f (.mv (.t 0))⟩,
    .run ⟨(some 12), none, .f (.mv (.t 1))⟩,
    .run ⟨(some 13), none, .e (.buildSlice 1 1 0 [(.str (mkS []))] [(0, 1, (.t 12))])⟩,
    .run ⟨(some 14), none, .e (.call 49 [(.t 11), (.t 13)])⟩,
    .run ⟨(some 7), none, .f (.mv (.t 14))⟩])
   (.seq (.reg [] [.run ⟨(some 15), none, .f (.mv (.t 7))⟩,
    .run ⟨(some 16), none, .f (.bin .neq (.t 15) (.c (.int .i64 0)))⟩])
   (.ite (.t 16)
   (.seq (.reg [] [.run ⟨(some 17), none, .f (.mv (.t 7))⟩,
    .run ⟨(some 6), none, .f (.mv (.t 17))⟩])
   .ret)
   .skip)))
   (.seq (.seq (.reg [] [.run ⟨(some 18), none, .f (.mv (.t 0))⟩,
    .run ⟨(some 19), none, .f (.nilCheck (.t 18))⟩,
    .run ⟨(some 20), none, .f (.fieldAddr 5 (.t 19))⟩,
    .run ⟨(some 21), none, .f (.load false 1 (.t 20))⟩])
   (.ite (.t 21)
   (.seq (.reg [] [.run ⟨(some 6), none, .f (.mv (.c (.int .i64 10)))⟩])
   .ret)
   .skip))
   (.seq (.reg [] [.run ⟨(some 22), none, .f (.mv (.t 0))⟩,
    .run ⟨(some 23), none, .f (.nilCheck (.t 22))⟩,
    .run ⟨(some 24), none, .f (.fieldAddr 0 (.t 23))⟩,
    .run ⟨(some 25), none, .f (.load false 1 (.t 24))⟩,
    .run ⟨(some 26), none, .f (.mv (.t 1))⟩,
    .run ⟨(some 27), none, .f (.lookup .str false (.ptr none) (.t 25) (.t 26))⟩,
    .run ⟨(some 8), none, .f (.mv (.t 27))⟩])
   (.seq (.seq (.reg [] [.run ⟨(some 28), none, .f (.mv (.t 8))⟩,
    .run ⟨(some 29), none, .f (.eq false .ptr (.t 28) (.c (.ptr none)))⟩])
   (.ite (.t 29)
   (.seq (.reg [] [.run ⟨(some 6), none, .f (.mv (.c (.int .i64 8)))⟩])
   .ret)
   .skip))
   (.seq (.seq (.reg [] [.run ⟨(some 31), none, .f (.mv (.t 0))⟩,
    .run ⟨(some 32), none, .e (.call 66 [(.t 31)])⟩,
    .run ⟨(some 30), none, .f (.mv (.t 32))⟩,
    .run ⟨(some 33), none, .f (.extract (.t 30) 0)⟩,
    .run ⟨(some 34), none, .f (.extract (.t 30) 1)⟩,
    .run ⟨(some 9), none, .f (.mv (.t 33))⟩,
    .run ⟨(some 10), none, .f (.mv (.t 34))⟩])
   (.seq (.reg [] [.run ⟨(some 35), none, .f (.mv (.t 9))⟩])
   (.ite (.t 35)
   (.seq (.reg [] [.run ⟨(some 6), none, .f (.mv (.c (.int .i64 10)))⟩])
   .ret)
   .skip)))
   (.seq (.reg [] [.run ⟨(some 36), none, .f (.mv (.t 2))⟩,
    .run ⟨(some 37), none, .f (.mv (.t 8))⟩,
    .run ⟨(some 38), none, .e (.callV (.t 36) [(.t 37)])⟩])
   (.seq (.reg [] [.run ⟨(some 6), none, .f (.mv (.c (.int .i64 0)))⟩])
   .ret))))))))
theorem k_disk_Disk_change : chkFn Try.prog n_disk_Disk_change ⟨b_disk_Disk_change, [.tmp 6], 39⟩ = true := by kernel_rfl
/-- (*fascine/disk.Disk).grow -/
abbrev n_disk_Disk_grow : Nat := 46
def k_disk_Disk_grow_0 : Cd := (.seq (.reg [] [.run ⟨(some 27), none, .f (.mv (.t 0))⟩,
    .run ⟨(some 28), none, .f (.nilCheck (.t 27))⟩,
    .run ⟨(some 29), none, .f (.fieldAddr 5 (.t 28))⟩,
    .run ⟨(some 30), none, .f (.load false 1 (.t 29))⟩,
    .run ⟨(some 26), none, .f (.mv (.t 30))⟩])
   (.ite (.t 26)
   (.seq (.reg [] [.run ⟨(some 8), none, .f (.mv (.c (.int .i64 10)))⟩])
   .ret)
   (.seq (.reg [] [.run ⟨(some 32), none, .f (.mv (.t 3))⟩,
    .run ⟨(some 33), none, .f (.mv (.t 32))⟩,
    .run ⟨(some 34), (some (33, true)), .f (.mv (.t 10))⟩,
    .run ⟨(some 35), (some (33, true)), .f (.eq true .ptr (.t 34) (.c (.ptr none)))⟩,
    .run ⟨(some 36), none, .f (.pick (.t 33) (.t 35) (.c (.bool false)))⟩,
    .run ⟨(some 31), none, .f (.mv (.t 36))⟩])
   (.ite (.t 31)
   (.seq (.reg [] [.run ⟨(some 8), none, .f (.mv (.c (.int .i64 9)))⟩])
   .ret)
   (.seq (.reg [0, 1, 2, 3, 4, 5, 6, 7, 8, 9, 10, 11, 12] [.run ⟨(some 38), none, .f (.mv (.t 2))⟩,
    .run ⟨(some 39), none, .f (.len .sl (.t 38))⟩,
    .run ⟨(some 40), none, .f (.mv (.t 0))⟩,
    .run ⟨(some 41), none, .f (.nilCheck (.t 40))⟩,
    .run ⟨(some 42), none, .f (.fieldAddr 1 (.t 41))⟩,
    .run ⟨(some 43), none, .f (.load false 1 (.t 42))⟩,
    .run ⟨(some 44), none, .f (.mv (.t 0))⟩,
    .run ⟨(some 45), none, .f (.nilCheck (.t 44))⟩,
    .run ⟨(some 46), none, .f (.fieldAddr 2 (.t 45))⟩,
    .run ⟨(some 47), none, .f (.load false 1 (.t 46))⟩,
    .run ⟨(some 48), none, .f (.bin .sub (.t 43) (.t 47))⟩,
    .run ⟨(some 49), none, .f (.bin .gtr (.t 39) (.t 48))⟩,
    .run ⟨(some 37), none, .f (.mv (.t 49))⟩])
   (.ite (.t 37)
   (.seq (.reg [] [.run ⟨(some 8), none, .f (.mv (.c (.int .i64 11)))⟩])
   .ret)
   .skip))))))
def s_disk_Disk_grow_0 : Cd := (.seq (.reg [] [.run ⟨(some 51), none, .f (.mv (.t 0))⟩,
    .run ⟨(some 52), none, .e (.call 66 [(.t 51)])⟩,
    .run ⟨(some 50), none, .f (.mv (.t 52))⟩,
    .run ⟨(some 53), none, .f (.extract (.t 50) 0)⟩,
    .run ⟨(some 54), none, .f (.extract (.t 50) 1)⟩,
    .run ⟨(some 11), none, .f (.mv (.t 53))⟩,
    .run ⟨(some 12), none, .f (.mv (.t 54))⟩])
   (.seq (.seq (.reg [] [.run ⟨(some 55), none, .f (.mv (.t 12))⟩,
    .run ⟨(some 56), none, .f (.bin .neq (.t 55) (.c (.int .i64 0)))⟩])
   (.ite (.t 56)
   (.seq (.reg [] [.run ⟨(some 57), none, .f (.mv (.t 12))⟩,
    .run ⟨(some 8), none, .f (.mv (.t 57))⟩])
   .ret)
   .skip))
   (.seq (.seq (.reg [] [.run ⟨(some 58), none, .f (.mv (.t 10))⟩,
    .run ⟨(some 59), none, .f (.eq false .ptr (.t 58) (.c (.ptr none)))⟩])
   (.ite (.t 59)
   (.seq (.reg [] [.run ⟨(some 60), none, .f (.build [(.sl [] 0 1 .nil), (.int .i64 0)] [])⟩,
    .run ⟨(some 61), none, .e (.box (.t 60))⟩,
    .run ⟨(some 10), none, .f (.mv (.t 61))⟩])
   (.reg [] [.run ⟨(some 62), none, .f (.mv (.t 0))⟩,
    .run ⟨(some 63), none, .f (.nilCheck (.t 62))⟩,
    .run ⟨(some 64), none, .f (.fieldAddr 0 (.t 63))⟩,
    .run ⟨(some 65), none, .f (.load false 1 (.t 64))⟩,
    .run ⟨(some 66), none, .f (.mv (.t 1))⟩,
    .run ⟨(some 67), none, .f (.mv (.t 10))⟩,
    .run ⟨none, none, .e (.mapSet .str (.t 65) (.t 66) (.t 67))⟩]))
   .skip))
   (.seq (.reg [] [.run ⟨(some 68), none, .f (.mv (.t 10))⟩,
    .run ⟨(some 69), none, .f (.mv (.t 10))⟩,
    .run ⟨(some 70), none, .f (.nilCheck (.t 69))⟩,
    .run ⟨(some 71), none, .f (.fieldAddr 0 (.t 70))⟩,
    .run ⟨(some 72), none, .f (.load false 1 (.t 71))⟩,
    .run ⟨(some 73), none, .f (.mv (.t 2))⟩,
    .run ⟨(some 74), none, .e (.append 1 1 false (.t 72) (.t 73))⟩,
    .run ⟨(some 75), none, .f (.nilCheck (.t 68))⟩,
    .run ⟨(some 76), none, .f (.fieldAddr 0 (.t 75))⟩,
    .run ⟨none, none, .e (.store 1 (.t 76) (.t 74))⟩])
   (.seq (.reg [] [.run ⟨(some 77), none, .f (.mv (.t 0))⟩,
    .run ⟨(some 78), none, .f (.nilCheck (.t 77))⟩,
    .run ⟨(some 79), none, .f (.fieldAddr 2 (.t 78))⟩,
    .run ⟨(some 80), none, .f (.load false 1 (.t 79))⟩,
    .run ⟨(some 81), none, .f (.mv (.t 2))⟩,
    .run ⟨(some 82), none, .f (.len .sl (.t 81))⟩,
    .run ⟨(some 83), none, .f (.bin .add (.t 80) (.t 82))⟩,
    .run ⟨(some 84), none, .f (.nilCheck (.t 77))⟩,
    .run ⟨(some 85), none, .f (.fieldAddr 2 (.t 84))⟩,
    .run ⟨none, none, .e (.store 1 (.t 85) (.t 83))⟩])
   (.seq (.seq (.reg [] [.run ⟨(some 86), none, .f (.mv (.t 11))⟩])
   (.ite (.t 86)
   (.seq (.reg [] [.run ⟨(some 8), none, .f (.mv (.c (.int .i64 10)))⟩])
   .ret)
   .skip))
   (.seq (.reg [] [.run ⟨(some 8), none, .f (.mv (.c (.int .i64 0)))⟩])
   .ret)))))))
def b_disk_Disk_grow : Cd := (.seq (.reg [] [.run ⟨(some 8), none, .f (.mv (.c (.int .i64 0)))⟩])
   (.seq (.seq (.reg [] [.run ⟨(some 13), none, .f (.mv (.t 0))⟩,
    .run ⟨(some 14), none, .f (.mv (.t 1))⟩,
    .run ⟨(some 15), none, .e (.buildSlice 1 1 0 [(.str (mkS []))] [(0, 1, (.t 14))])⟩,
    .run ⟨(some 16), none, .e (.call 49 [(.t 13), (.t 15)])⟩,
    .run ⟨(some 9), none, .f (.mv (.t 16))⟩])
   (.seq (.reg [] [.run ⟨(some 17), none, .f (.mv (.t 9))⟩,
    .run ⟨(some 18), none, .f (.bin .neq (.t 17) (.c (.int .i64 0)))⟩])
   (.ite (.t 18)
   (.seq (.reg [] [.run ⟨(some 19), none, .f (.mv (.t 9))⟩,
    .run ⟨(some 8), none, .f (.mv (.t 19))⟩])
   .ret)
   .skip)))
   (.seq (.reg [] [.run ⟨(some 20), none, .f (.mv (.t 0))⟩,
    .run ⟨(some 21), none, .f (.nilCheck (.t 20))⟩,
    .run ⟨(some 22), none, .f (.fieldAddr 0 (.t 21))⟩,
    .run ⟨(some 23), none, .f (.load false 1 (.t 22))⟩,
    .run ⟨(some 24), none, .f (.mv (.t 1))⟩,
    .run ⟨(some 25), none, .f (.lookup .str false (.ptr none) (.t 23) (.t 24))⟩,
    .run ⟨(some 10), none, .f (.mv (.t 25))⟩])
   (.seq (.blk 0 k_disk_Disk_grow_0)
   s_disk_Disk_grow_0))))
theorem k_disk_Disk_grow : chkFn Try.prog n_disk_Disk_grow ⟨b_disk_Disk_grow, [.tmp 8], 87⟩ = true := by kernel_rfl
/-- (*fascine/disk.Disk).look -/
abbrev n_disk_Disk_look : Nat := 49
def l_disk_Disk_look_0 : Cd := (.seq (.reg [] [.run ⟨(some 12), none, .f (.bin .lss (.t 11) (.t 10))⟩])
   (.seq (.ite (.t 12)
   .skip
   (.exit 0))
   (.seq (.blk 1 (.seq (.reg [] [.run ⟨(some 13), none, .f (.indexAddr 1 (.t 9) (.t 11))⟩,
    .run ⟨(some 14), none, .f (.load false 1 (.t 13))⟩,
    .run ⟨(some 6), none, .f (.mv (.t 14))⟩])
   (.seq (.reg [] [.run ⟨(some 15), none, .f (.mv (.t 6))⟩,
    .run ⟨(some 16), none, .e (.call 16 [(.t 15)])⟩,
    .run ⟨(some 17), none, .f (.un .not (.t 16))⟩])
   (.ite (.t 17)
   (.seq (.reg [] [.run ⟨(some 4), none, .f (.mv (.c (.int .i64 1)))⟩])
   .ret)
   .skip))))
   (.reg [] [.run ⟨(some 18), none, .f (.bin .add (.t 11) (.c (.int .i64 1)))⟩,
    .run ⟨(some 11), none, .f (.mv (.t 18))⟩]))))
def b_disk_Disk_look : Cd := (.seq (.reg [] [.run ⟨(some 4), none, .f (.mv (.c (.int .i64 0)))⟩])
   (.seq (.seq (.reg [] [.run ⟨(some 7), none, .f (.mv (.t 0))⟩,
    .run ⟨(some 8), none, .f (.eq false .ptr (.t 7) (.c (.ptr none)))⟩])
   (.ite (.t 8)
   (.seq (.reg [] [.run ⟨(some 4), none, .f (.mv (.c (.int .i64 8)))⟩])
   .ret)
   .skip))
   (.seq (.seq (.reg [] [.run ⟨(some 9), none, .f (.mv (.t 1))⟩,
    .run ⟨(some 10), none, .f (.len .sl (.t 9))⟩,
    .run ⟨(some 11), none, .f (.mv (.c (.int .i64 0)))⟩])
   (.blk 0 (.loop l_disk_Disk_look_0)))
   (.seq (.reg [] [.run ⟨(some 4), none, .f (.mv (.c (.int .i64 0)))⟩])
   .ret))))
theorem k_disk_Disk_look : chkFn Try.prog n_disk_Disk_look ⟨b_disk_Disk_look, [.tmp 4], 19⟩ = true := by kernel_rfl
/-- fascine/disk.Name -/
abbrev n_disk_Name : Nat := 16
def k_disk_Name_0 : Cd := (.seq (.reg [] [.run ⟨(some 8), none, .f (.mv (.t 6))⟩,
    .run ⟨(some 3), none, .f (.mv (.t 8))⟩])
   (.seq (.reg [] [.run ⟨(some 9), none, .f (.mv (.t 0))⟩,
    .run ⟨(some 10), none, .f (.mv (.t 3))⟩,
    .run ⟨(some 11), none, .f (.indexS (.t 9) (.t 10))⟩,
    .run ⟨(some 12), none, .f (.bin .geq (.t 11) (.c (.int .u8 97)))⟩,
    .run ⟨(some 13), none, .f (.mv (.t 12))⟩,
    .run ⟨(some 14), (some (13, true)), .f (.mv (.t 0))⟩,
    .run ⟨(some 15), (some (13, true)), .f (.mv (.t 3))⟩,
    .run ⟨(some 16), (some (13, true)), .f (.indexS (.t 14) (.t 15))⟩,
    .run ⟨(some 17), (some (13, true)), .f (.bin .leq (.t 16) (.c (.int .u8 122)))⟩,
    .run ⟨(some 18), none, .f (.pick (.t 13) (.t 17) (.c (.bool false)))⟩,
    .run ⟨(some 19), none, .f (.mv (.t 18))⟩,
    .run ⟨(some 20), (some (19, false)), .f (.mv (.t 0))⟩,
    .run ⟨(some 21), (some (19, false)), .f (.mv (.t 3))⟩,
    .run ⟨(some 22), (some (19, false)), .f (.indexS (.t 20) (.t 21))⟩,
    .run ⟨(some 23), (some (19, false)), .f (.bin .geq (.t 22) (.c (.int .u8 48)))⟩,
    .run ⟨(some 24), (some (19, false)), .f (.mv (.t 23))⟩,
    .run ⟨(some 25), (some (24, true)), .f (.mv (.t 0))⟩,
    .run ⟨(some 26), (some (24, true)), .f (.mv (.t 3))⟩,
    .run ⟨(some 27), (some (24, true)), .f (.indexS (.t 25) (.t 26))⟩,
    .run ⟨(some 28), (some (24, true)), .f (.bin .leq (.t 27) (.c (.int .u8 57)))⟩,
    .run ⟨(some 29), (some (19, false)), .f (.pick (.t 24) (.t 28) (.c (.bool false)))⟩,
    .run ⟨(some 30), none, .f (.pick (.t 19) (.c (.bool true)) (.t 29))⟩,
    .run ⟨(some 31), none, .f (.mv (.t 30))⟩,
    .run ⟨(some 32), (some (31, false)), .f (.mv (.t 0))⟩,
    .run ⟨(some 33), (some (31, false)), .f (.mv (.t 3))⟩,
    .run ⟨(some 34), (some (31, false)), .f (.indexS (.t 32) (.t 33))⟩,
    .run ⟨(some 35), (some (31, false)), .f (.bin .eql (.t 34) (.c (.int .u8 46)))⟩,
    .run ⟨(some 36), none, .f (.pick (.t 31) (.c (.bool true)) (.t 35))⟩,
    .run ⟨(some 37), none, .f (.mv (.t 36))⟩,
    .run ⟨(some 38), (some (37, false)), .f (.mv (.t 0))⟩,
    .run ⟨(some 39), (some (37, false)), .f (.mv (.t 3))⟩,
    .run ⟨(some 40), (some (37, false)), .f (.indexS (.t 38) (.t 39))⟩,
    .run ⟨(some 41), (some (37, false)), .f (.bin .eql (.t 40) (.c (.int .u8 45)))⟩,
    .run ⟨(some 42), none, .f (.pick (.t 37) (.c (.bool true)) (.t 41))⟩,
    .run ⟨(some 43), none, .f (.un .not (.t 42))⟩])
   (.ite (.t 43)
   (.seq (.reg [] [.run ⟨(some 2), none, .f (.mv (.c (.bool false)))⟩])
   .ret)
   .skip)))
def l_disk_Name_0 : Cd := (.seq (.reg [] [.run ⟨(some 7), none, .f (.bin .lss (.t 6) (.t 5))⟩])
   (.seq (.ite (.t 7)
   .skip
   (.exit 0))
   (.seq (.blk 1 k_disk_Name_0)
   (.reg [] [.run ⟨(some 44), none, .f (.bin .add (.t 6) (.c (.int .i64 1)))⟩,
    .run ⟨(some 6), none, .f (.mv (.t 44))⟩]))))
def s_disk_Name_0 : Cd := (.seq (.reg [] [.run ⟨(some 45), none, .f (.mv (.t 0))⟩,
    .run ⟨(some 46), none, .f (.len .str (.t 45))⟩,
    .run ⟨(some 47), none, .f (.bin .geq (.t 46) (.c (.int .i64 1)))⟩,
    .run ⟨(some 48), none, .f (.mv (.t 47))⟩,
    .run ⟨(some 49), (some (48, true)), .f (.mv (.t 0))⟩,
    .run ⟨(some 50), (some (48, true)), .f (.len .str (.t 49))⟩,
    .run ⟨(some 51), (some (48, true)), .f (.bin .leq (.t 50) (.c (.int .i64 32)))⟩,
    .run ⟨(some 52), none, .f (.pick (.t 48) (.t 51) (.c (.bool false)))⟩,
    .run ⟨(some 2), none, .f (.mv (.t 52))⟩])
   .ret)
def b_disk_Name : Cd := (.seq (.reg [] [.run ⟨(some 2), none, .f (.mv (.c (.bool false)))⟩])
   (.seq (.seq (.reg [] [.run ⟨(some 4), none, .f (.mv (.t 0))⟩,
    .run ⟨(some 5), none, .f (.len .str (.t 4))⟩,
    .run ⟨(some 6), none, .f (.mv (.c (.int .i64 0)))⟩])
   (.blk 0 (.loop l_disk_Name_0)))
   s_disk_Name_0))
theorem k_disk_Name : chkFn Try.prog n_disk_Name ⟨b_disk_Name, [.tmp 2], 53⟩ = true := by kernel_rfl
/-- fascine/disk.New -/
abbrev n_disk_New : Nat := 18
def b_disk_New : Cd := (.seq (.reg [] [.run ⟨(some 2), none, .f (.mv (.c (.ptr none)))⟩,
    .run ⟨(some 3), none, .f (.mv (.c (.int .i64 0)))⟩])
   (.seq (.seq (.reg [] [.run ⟨(some 4), none, .f (.mv (.t 0))⟩,
    .run ⟨(some 5), none, .f (.bin .lss (.t 4) (.c (.int .i64 0)))⟩,
    .run ⟨(some 6), none, .f (.mv (.t 5))⟩,
    .run ⟨(some 7), (some (6, false)), .f (.mv (.t 0))⟩,
    .run ⟨(some 8), (some (6, false)), .f (.bin .gtr (.t 7) (.c (.int .i64 67108864)))⟩,
    .run ⟨(some 9), none, .f (.pick (.t 6) (.c (.bool true)) (.t 8))⟩])
   (.ite (.t 9)
   (.seq (.reg [] [.run ⟨(some 2), none, .f (.mv (.c (.ptr none)))⟩,
    .run ⟨(some 3), none, .f (.mv (.c (.int .i64 1)))⟩])
   .ret)
   .skip))
   (.seq (.reg [] [.run ⟨(some 10), none, .e (.makeMap)⟩,
    .run ⟨(some 11), none, .f (.mv (.t 0))⟩,
    .run ⟨(some 12), none, .f (.build [(.map none), (.int .i64 0), (.int .i64 0), (.int .i64 0), (.int .i64 0), (.bool false)] [(0, 1, (.t 10)), (1, 1, (.t 11))])⟩,
    .run ⟨(some 13), none, .e (.box (.t 12))⟩,
    .run ⟨(some 2), none, .f (.mv (.t 13))⟩,
    .run ⟨(some 3), none, .f (.mv (.c (.int .i64 0)))⟩])
   .ret)))
theorem k_disk_New : chkFn Try.prog n_disk_New ⟨b_disk_New, [.tmp 2, .tmp 3], 14⟩ = true := by kernel_rfl
/-- fascine/fascinelaw02.DiskKeeps -/
abbrev n_l02_DiskKeeps : Nat := 4
def r_l02_DiskKeeps_0 : Cd := (.seq (.blk 1 (.reg [] [.run ⟨(some 50), none, .f (.mv (.t 7))⟩,
    .run ⟨(some 51), none, .f (.mv (.t 8))⟩,
    .run ⟨(some 52), none, .f (.mv (.t 7))⟩,
    .run ⟨(some 53), none, .f (.mv (.t 8))⟩,
    .run ⟨(some 54), none, .f (.indexAddr 1 (.t 52) (.t 53))⟩,
    .run ⟨(some 55), none, .f (.load false 1 (.t 54))⟩,
    .run ⟨(some 56), none, .f (.bin .xor (.t 55) (.c (.int .u8 1)))⟩,
    .run ⟨(some 57), none, .f (.indexAddr 1 (.t 50) (.t 51))⟩,
    .run ⟨none, none, .e (.store 1 (.t 57) (.t 56))⟩]))
   (.reg [] [.run ⟨(some 48), none, .f (.mv (.t 8))⟩,
    .run ⟨(some 49), none, .f (.bin .add (.t 48) (.c (.int .i64 1)))⟩,
    .run ⟨(some 8), none, .f (.mv (.t 49))⟩]))
def l_l02_DiskKeeps_0 : Cd := (.seq (.seq (.reg [] [.run ⟨(some 44), none, .f (.mv (.t 8))⟩,
    .run ⟨(some 45), none, .f (.mv (.t 7))⟩,
    .run ⟨(some 46), none, .f (.len .sl (.t 45))⟩,
    .run ⟨(some 47), none, .f (.bin .lss (.t 44) (.t 46))⟩])
   (.ite (.t 47)
   .skip
   (.exit 0)))
   r_l02_DiskKeeps_0)
def r_l02_DiskKeeps_1 : Cd := (.seq (.blk 3 (.reg [] [.run ⟨(some 69), none, .f (.mv (.t 9))⟩,
    .run ⟨(some 70), none, .f (.mv (.t 11))⟩,
    .run ⟨(some 71), none, .f (.mv (.t 9))⟩,
    .run ⟨(some 72), none, .f (.mv (.t 11))⟩,
    .run ⟨(some 73), none, .f (.indexAddr 1 (.t 71) (.t 72))⟩,
    .run ⟨(some 74), none, .f (.load false 1 (.t 73))⟩,
    .run ⟨(some 75), none, .f (.bin .xor (.t 74) (.c (.int .u8 1)))⟩,
    .run ⟨(some 76), none, .f (.indexAddr 1 (.t 69) (.t 70))⟩,
    .run ⟨none, none, .e (.store 1 (.t 76) (.t 75))⟩]))
   (.reg [] [.run ⟨(some 67), none, .f (.mv (.t 11))⟩,
    .run ⟨(some 68), none, .f (.bin .add (.t 67) (.c (.int .i64 1)))⟩,
    .run ⟨(some 11), none, .f (.mv (.t 68))⟩]))
def l_l02_DiskKeeps_1 : Cd := (.seq (.seq (.reg [] [.run ⟨(some 63), none, .f (.mv (.t 11))⟩,
    .run ⟨(some 64), none, .f (.mv (.t 9))⟩,
    .run ⟨(some 65), none, .f (.len .sl (.t 64))⟩,
    .run ⟨(some 66), none, .f (.bin .lss (.t 63) (.t 65))⟩])
   (.ite (.t 66)
   .skip
   (.exit 2)))
   r_l02_DiskKeeps_1)
def s_l02_DiskKeeps_0 : Cd := (.seq (.reg [] [.run ⟨(some 78), none, .f (.mv (.t 5))⟩,
    .run ⟨(some 79), none, .e (.call 21 [(.t 78), (.c (.str (mkS [97])))])⟩,
    .run ⟨(some 77), none, .f (.mv (.t 79))⟩,
    .run ⟨(some 80), none, .f (.extract (.t 77) 0)⟩,
    .run ⟨(some 81), none, .f (.extract (.t 77) 1)⟩,
    .run ⟨(some 12), none, .f (.mv (.t 80))⟩,
    .run ⟨(some 13), none, .f (.mv (.t 81))⟩])
   (.seq (.reg [] [.run ⟨(some 82), none, .f (.mv (.t 10))⟩,
    .run ⟨(some 83), none, .f (.bin .eql (.t 82) (.c (.int .i64 0)))⟩,
    .run ⟨(some 84), none, .f (.mv (.t 83))⟩,
    .run ⟨(some 85), (some (84, true)), .f (.mv (.t 13))⟩,
    .run ⟨(some 86), (some (84, true)), .f (.bin .eql (.t 85) (.c (.int .i64 0)))⟩,
    .run ⟨(some 87), none, .f (.pick (.t 84) (.t 86) (.c (.bool false)))⟩,
    .run ⟨(some 88), none, .f (.mv (.t 87))⟩,
    .run ⟨(some 89), (some (88, true)), .f (.mv (.t 12))⟩,
    .run ⟨(some 90), (some (88, true)), .f (.conv .bytesStr (.t 89))⟩,
    .run ⟨(some 91), (some (88, true)), .f (.mv (.t 0))⟩,
    .run ⟨(some 92), (some (88, true)), .f (.conv .bytesStr (.t 91))⟩,
    .run ⟨(some 93), (some (88, true)), .f (.mv (.t 0))⟩,
    .run ⟨(some 94), (some (88, true)), .f (.conv .bytesStr (.t 93))⟩,
    .run ⟨(some 95), (some (88, true)), .f (.bin .add (.t 92) (.t 94))⟩,
    .run ⟨(some 96), (some (88, true)), .f (.bin .eql (.t 90) (.t 95))⟩,
    .run ⟨(some 97), none, .f (.pick (.t 88) (.t 96) (.c (.bool false)))⟩,
    .run ⟨(some 98), none, .f (.mv (.t 97))⟩,
    .run ⟨(some 99), (some (98, true)), .f (.mv (.t 5))⟩,
    .run ⟨(some 100), (some (98, true)), .f (.mv (.t 1))⟩,
    .run ⟨(some 101), (some (98, true)), .e (.buildSlice 1 1 0 [(.int .i64 0)] [(0, 1, (.t 100))])⟩,
    .run ⟨(some 102), (some (98, true)), .e (.call 22 [(.t 99), (.t 101)])⟩,
    .run ⟨(some 103), (some (98, true)), .f (.bin .eql (.t 102) (.c (.int .i64 0)))⟩,
    .run ⟨(some 104), none, .f (.pick (.t 98) (.t 103) (.c (.bool false)))⟩,
    .run ⟨(some 105), none, .f (.mv (.t 104))⟩,
    .run ⟨(some 106), (some (105, true)), .f (.mv (.t 5))⟩,
    .run ⟨(some 107), (some (105, true)), .e (.call 23 [(.t 106), (.c (.str (mkS [97])))])⟩,
    .run ⟨(some 108), (some (105, true)), .f (.mv (.t 0))⟩,
    .run ⟨(some 109), (some (105, true)), .f (.len .sl (.t 108))⟩,
    .run ⟨(some 110), (some (105, true)), .f (.bin .geq (.t 107) (.t 109))⟩,
    .run ⟨(some 111), none, .f (.pick (.t 105) (.t 110) (.c (.bool false)))⟩,
    .run ⟨(some 4), none, .f (.mv (.t 111))⟩])
   .ret))
def s_l02_DiskKeeps_1 : Cd := (.seq (.reg [] [.run ⟨(some 59), none, .f (.mv (.t 5))⟩,
    .run ⟨(some 60), none, .e (.call 21 [(.t 59), (.c (.str (mkS [97])))])⟩,
    .run ⟨(some 58), none, .f (.mv (.t 60))⟩,
    .run ⟨(some 61), none, .f (.extract (.t 58) 0)⟩,
    .run ⟨(some 62), none, .f (.extract (.t 58) 1)⟩,
    .run ⟨(some 9), none, .f (.mv (.t 61))⟩,
    .run ⟨(some 10), none, .f (.mv (.t 62))⟩])
   (.seq (.seq (.reg [] [.run ⟨(some 11), none, .f (.mv (.c (.int .i64 0)))⟩])
   (.blk 2 (.loop l_l02_DiskKeeps_1)))
   s_l02_DiskKeeps_0))
def r_l02_DiskKeeps_2 : Cd := (.seq (.reg [] [.run ⟨(some 23), none, .e (.call 18 [(.c (.int .i64 5000))])⟩,
    .run ⟨(some 22), none, .f (.mv (.t 23))⟩,
    .run ⟨(some 24), none, .f (.extract (.t 22) 0)⟩,
    .run ⟨(some 25), none, .f (.extract (.t 22) 1)⟩,
    .run ⟨(some 5), none, .f (.mv (.t 24))⟩,
    .run ⟨(some 6), none, .f (.mv (.t 25))⟩])
   (.seq (.reg [] [.run ⟨(some 7), none, .f (.mv (.c (.sl [] 0 1 .nil)))⟩])
   (.seq (.reg [] [.run ⟨(some 26), none, .f (.mv (.t 7))⟩,
    .run ⟨(some 27), none, .f (.mv (.t 0))⟩,
    .run ⟨(some 28), none, .e (.append 1 1 true (.t 26) (.t 27))⟩,
    .run ⟨(some 7), none, .f (.mv (.t 28))⟩])
   (.seq (.seq (.reg [] [.run ⟨(some 29), none, .f (.mv (.t 5))⟩,
    .run ⟨(some 30), none, .f (.mv (.t 7))⟩,
    .run ⟨(some 31), none, .e (.call 19 [(.t 29), (.c (.str (mkS [97]))), (.t 30)])⟩,
    .run ⟨(some 32), none, .f (.bin .neq (.t 31) (.c (.int .i64 0)))⟩,
    .run ⟨(some 33), none, .f (.mv (.t 32))⟩,
    .run ⟨(some 34), (some (33, false)), .f (.mv (.t 5))⟩,
    .run ⟨(some 35), (some (33, false)), .e (.call 20 [(.t 34), (.c (.str (mkS [97])))])⟩,
    .run ⟨(some 36), (some (33, false)), .f (.bin .neq (.t 35) (.c (.int .i64 0)))⟩,
    .run ⟨(some 37), none, .f (.pick (.t 33) (.c (.bool true)) (.t 36))⟩,
    .run ⟨(some 38), none, .f (.mv (.t 37))⟩,
    .run ⟨(some 39), (some (38, false)), .f (.mv (.t 5))⟩,
    .run ⟨(some 40), (some (38, false)), .f (.mv (.t 7))⟩,
    .run ⟨(some 41), (some (38, false)), .e (.call 19 [(.t 39), (.c (.str (mkS [97]))), (.t 40)])⟩,
    .run ⟨(some 42), (some (38, false)), .f (.bin .neq (.t 41) (.c (.int .i64 0)))⟩,
    .run ⟨(some 43), none, .f (.pick (.t 38) (.c (.bool true)) (.t 42))⟩])
   (.ite (.t 43)
   (.seq (.reg [] [.run ⟨(some 4), none, .f (.mv (.c (.bool false)))⟩])
   .ret)
   .skip))
   (.seq (.seq (.reg [] [.run ⟨(some 8), none, .f (.mv (.c (.int .i64 0)))⟩])
   (.blk 0 (.loop l_l02_DiskKeeps_0)))
   s_l02_DiskKeeps_1)))))
def b_l02_DiskKeeps : Cd := (.seq (.reg [] [.run ⟨(some 4), none, .f (.mv (.c (.bool false)))⟩])
   (.seq (.seq (.reg [] [.run ⟨(some 14), none, .e (.call 15 [])⟩,
    .run ⟨(some 15), none, .f (.un .not (.t 14))⟩,
    .run ⟨(some 16), none, .f (.mv (.t 15))⟩,
    .run ⟨(some 17), (some (16, false)), .f (.mv (.t 0))⟩,
    .run ⟨(some 18), (some (16, false)), .f (.len .sl (.t 17))⟩,
    .run ⟨(some 19), (some (16, false)), .f (.bin .gtr (.t 18) (.c (.int .i64 1000)))⟩,
    .run ⟨(some 20), none, .f (.pick (.t 16) (.c (.bool true)) (.t 19))⟩])
   (.ite (.t 20)
   (.seq (.reg [] [.run ⟨(some 21), none, .e (.call 15 [])⟩,
    .run ⟨(some 4), none, .f (.mv (.t 21))⟩])
   .ret)
   .skip))
   r_l02_DiskKeeps_2))
theorem k_l02_DiskKeeps : chkFn Try.prog n_l02_DiskKeeps ⟨b_l02_DiskKeeps, [.tmp 4], 112⟩ = true := by kernel_rfl
/-- fascine/fascinelaw02.DiskLasts -/
abbrev n_l02_DiskLasts : Nat := 5
def r_l02_DiskLasts_0 : Cd := (.seq (.reg [] [.run ⟨(some 137), none, .f (.mv (.t 14))⟩,
    .run ⟨(some 138), none, .f (.mv (.t 137))⟩,
    .run ⟨(some 139), (some (138, true)), .f (.mv (.t 18))⟩,
    .run ⟨(some 140), (some (138, true)), .f (.bin .eql (.t 139) (.c (.int .i64 0)))⟩,
    .run ⟨(some 141), none, .f (.pick (.t 138) (.t 140) (.c (.bool false)))⟩,
    .run ⟨(some 142), none, .f (.mv (.t 141))⟩,
    .run ⟨(some 143), (some (142, true)), .f (.mv (.t 17))⟩,
    .run ⟨(some 144), (some (142, true)), .f (.conv .bytesStr (.t 143))⟩,
    .run ⟨(some 145), (some (142, true)), .f (.mv (.t 2))⟩,
    .run ⟨(some 146), (some (142, true)), .f (.conv .bytesStr (.t 145))⟩,
    .run ⟨(some 147), (some (142, true)), .f (.bin .eql (.t 144) (.t 146))⟩,
    .run ⟨(some 148), none, .f (.pick (.t 142) (.t 147) (.c (.bool false)))⟩,
    .run ⟨(some 149), none, .f (.mv (.t 148))⟩,
    .run ⟨(some 150), (some (149, false)), .f (.mv (.t 14))⟩,
    .run ⟨(some 151), (some (149, false)), .f (.un .not (.t 150))⟩,
    .run ⟨(some 152), (some (149, false)), .f (.mv (.t 151))⟩,
    .run ⟨(some 153), (some (152, true)), .f (.mv (.t 18))⟩,
    .run ⟨(some 154), (some (152, true)), .f (.bin .eql (.t 153) (.c (.int .i64 8)))⟩,
    .run ⟨(some 155), (some (149, false)), .f (.pick (.t 152) (.t 154) (.c (.bool false)))⟩,
    .run ⟨(some 156), none, .f (.pick (.t 149) (.c (.bool true)) (.t 155))⟩,
    .run ⟨(some 10), none, .f (.mv (.t 156))⟩])
   .ret)
def r_l02_DiskLasts_1 : Cd := (.seq (.reg [] [.run ⟨(some 83), none, .f (.mv (.t 11))⟩,
    .run ⟨(some 84), none, .e (.call 21 [(.t 83), (.c (.str (mkS [97])))])⟩,
    .run ⟨(some 82), none, .f (.mv (.t 84))⟩,
    .run ⟨(some 85), none, .f (.extract (.t 82) 0)⟩,
    .run ⟨(some 86), none, .f (.extract (.t 82) 1)⟩,
    .run ⟨(some 15), none, .f (.mv (.t 85))⟩,
    .run ⟨(some 16), none, .f (.mv (.t 86))⟩])
   (.seq (.reg [] [.run ⟨(some 88), none, .f (.mv (.t 11))⟩,
    .run ⟨(some 89), none, .e (.call 21 [(.t 88), (.c (.str (mkS [99])))])⟩,
    .run ⟨(some 87), none, .f (.mv (.t 89))⟩,
    .run ⟨(some 90), none, .f (.extract (.t 87) 0)⟩,
    .run ⟨(some 91), none, .f (.extract (.t 87) 1)⟩,
    .run ⟨(some 17), none, .f (.mv (.t 90))⟩,
    .run ⟨(some 18), none, .f (.mv (.t 91))⟩])
   (.seq (.seq (.reg [0, 1, 2, 3, 4, 5, 6, 7, 8, 9, 10, 11, 12, 13, 14, 15, 16, 17, 18, 19, 20, 21, 22, 23, 24, 25, 26, 27, 28, 29, 30, 31, 32, 33, 34, 35, 36, 37, 38, 39, 40, 41, 42, 43, 44] [.run ⟨(some 92), none, .f (.mv (.t 16))⟩,
    .run ⟨(some 93), none, .f (.bin .neq (.t 92) (.c (.int .i64 0)))⟩,
    .run ⟨(some 94), none, .f (.mv (.t 93))⟩,
    .run ⟨(some 95), (some (94, false)), .f (.mv (.t 15))⟩,
    .run ⟨(some 96), (some (94, false)), .f (.len .sl (.t 95))⟩,
    .run ⟨(some 97), (some (94, false)), .f (.mv (.t 0))⟩,
    .run ⟨(some 98), (some (94, false)), .f (.len .sl (.t 97))⟩,
    .run ⟨(some 99), (some (94, false)), .f (.bin .lss (.t 96) (.t 98))⟩,
    .run ⟨(some 100), none, .f (.pick (.t 94) (.c (.bool true)) (.t 99))⟩,
    .run ⟨(some 101), none, .f (.mv (.t 100))⟩,
    .run ⟨(some 102), (some (101, false)), .f (.mv (.t 15))⟩,
    .run ⟨(some 103), (some (101, false)), .f (.len .sl (.t 102))⟩,
    .run ⟨(some 104), (some (101, false)), .f (.mv (.t 0))⟩,
    .run ⟨(some 105), (some (101, false)), .f (.len .sl (.t 104))⟩,
    .run ⟨(some 106), (some (101, false)), .f (.mv (.t 1))⟩,
    .run ⟨(some 107), (some (101, false)), .f (.len .sl (.t 106))⟩,
    .run ⟨(some 108), (some (101, false)), .f (.bin .add (.t 105) (.t 107))⟩,
    .run ⟨(some 109), (some (101, false)), .f (.bin .gtr (.t 103) (.t 108))⟩,
    .run ⟨(some 110), none, .f (.pick (.t 101) (.c (.bool true)) (.t 109))⟩,
    .run ⟨(some 111), none, .f (.mv (.t 110))⟩,
    .run ⟨(some 112), (some (111, false)), .f (.mv (.t 15))⟩,
    .run ⟨(some 113), (some (111, false)), .f (.mv (.t 0))⟩,
    .run ⟨(some 114), (some (111, false)), .f (.len .sl (.t 113))⟩,
    .run ⟨(some 115), (some (111, false)), .f (.slice 1 (.t 112) none (some (.t 114)) none)⟩,
    .run ⟨(some 116), (some (111, false)), .f (.conv .bytesStr (.t 115))⟩,
    .run ⟨(some 117), (some (111, false)), .f (.mv (.t 0))⟩,
    .run ⟨(some 118), (some (111, false)), .f (.conv .bytesStr (.t 117))⟩,
    .run ⟨(some 119), (some (111, false)), .f (.bin .neq (.t 116) (.t 118))⟩,
    .run ⟨(some 120), none, .f (.pick (.t 111) (.c (.bool true)) (.t 119))⟩,
    .run ⟨(some 121), none, .f (.mv (.t 120))⟩,
    .run ⟨(some 122), (some (121, false)), .f (.mv (.t 15))⟩,
    .run ⟨(some 123), (some (121, false)), .f (.mv (.t 0))⟩,
    .run ⟨(some 124), (some (121, false)), .f (.len .sl (.t 123))⟩,
    .run ⟨(some 125), (some (121, false)), .f (.slice 1 (.t 122) (some (.t 124)) none none)⟩,
    .run ⟨(some 126), (some (121, false)), .f (.conv .bytesStr (.t 125))⟩,
    .run ⟨(some 127), (some (121, false)), .f (.mv (.t 1))⟩,
    .run ⟨(some 128), (some (121, false)), .f (.mv (.t 15))⟩,
    .run ⟨(some 129), (some (121, false)), .f (.len .sl (.t 128))⟩,
    .run ⟨(some 130), (some (121, false)), .f (.mv (.t 0))⟩,
    .run ⟨(some 131), (some (121, false)), .f (.len .sl (.t 130))⟩,
    .run ⟨(some 132), (some (121, false)), .f (.bin .sub (.t 129) (.t 131))⟩,
    .run ⟨(some 133), (some (121, false)), .f (.slice 1 (.t 127) none (some (.t 132)) none)⟩,
    .run ⟨(some 134), (some (121, false)), .f (.conv .bytesStr (.t 133))⟩,
    .run ⟨(some 135), (some (121, false)), .f (.bin .neq (.t 126) (.t 134))⟩,
    .run ⟨(some 136), none, .f (.pick (.t 121) (.c (.bool true)) (.t 135))⟩])
   (.ite (.t 136)
   (.seq (.reg [] [.run ⟨(some 10), none, .f (.mv (.c (.bool false)))⟩])
   .ret)
   .skip))
   r_l02_DiskLasts_0)))
def r_l02_DiskLasts_2 : Cd := (.seq (.reg [] [.run ⟨(some 54), none, .f (.mv (.t 11))⟩,
    .run ⟨(some 55), none, .f (.mv (.t 1))⟩,
    .run ⟨(some 56), none, .e (.call 19 [(.t 54), (.c (.str (mkS [97]))), (.t 55)])⟩])
   (.seq (.reg [] [.run ⟨(some 57), none, .f (.mv (.t 11))⟩,
    .run ⟨(some 58), none, .f (.mv (.t 2))⟩,
    .run ⟨(some 59), none, .e (.call 25 [(.t 57), (.c (.str (mkS [98]))), (.t 58)])⟩])
   (.seq (.reg [] [.run ⟨(some 60), none, .f (.mv (.t 11))⟩,
    .run ⟨(some 61), none, .e (.call 20 [(.t 60), (.c (.str (mkS [98])))])⟩,
    .run ⟨(some 62), none, .f (.bin .eql (.t 61) (.c (.int .i64 0)))⟩,
    .run ⟨(some 13), none, .f (.mv (.t 62))⟩])
   (.seq (.reg [] [.run ⟨(some 63), none, .f (.mv (.t 11))⟩,
    .run ⟨(some 64), none, .e (.call 26 [(.t 63), (.c (.str (mkS [98]))), (.c (.str (mkS [99])))])⟩,
    .run ⟨(some 65), none, .f (.bin .eql (.t 64) (.c (.int .i64 0)))⟩,
    .run ⟨(some 14), none, .f (.mv (.t 65))⟩])
   (.seq (.seq (.reg [] [.run ⟨(some 66), none, .f (.mv (.t 14))⟩,
    .run ⟨(some 67), none, .f (.mv (.t 66))⟩,
    .run ⟨(some 68), (some (67, true)), .f (.mv (.t 13))⟩,
    .run ⟨(some 69), (some (67, true)), .f (.un .not (.t 68))⟩,
    .run ⟨(some 70), none, .f (.pick (.t 67) (.t 69) (.c (.bool false)))⟩,
    .run ⟨(some 71), none, .f (.mv (.t 70))⟩,
    .run ⟨(some 72), (some (71, true)), .f (.mv (.t 2))⟩,
    .run ⟨(some 73), (some (71, true)), .f (.len .sl (.t 72))⟩,
    .run ⟨(some 74), (some (71, true)), .f (.bin .gtr (.t 73) (.c (.int .i64 0)))⟩,
    .run ⟨(some 75), none, .f (.pick (.t 71) (.t 74) (.c (.bool false)))⟩,
    .run ⟨(some 76), none, .f (.mv (.t 75))⟩,
    .run ⟨(some 77), (some (76, false)), .f (.mv (.t 11))⟩,
    .run ⟨(some 78), (some (76, false)), .f (.mv (.t 4))⟩,
    .run ⟨(some 79), (some (76, false)), .e (.call 22 [(.t 77), (.t 78)])⟩,
    .run ⟨(some 80), (some (76, false)), .f (.bin .neq (.t 79) (.c (.int .i64 0)))⟩,
    .run ⟨(some 81), none, .f (.pick (.t 76) (.c (.bool true)) (.t 80))⟩])
   (.ite (.t 81)
   (.seq (.reg [] [.run ⟨(some 10), none, .f (.mv (.c (.bool false)))⟩])
   .ret)
   .skip))
   r_l02_DiskLasts_1)))))
def r_l02_DiskLasts_3 : Cd := (.seq (.reg [] [.run ⟨(some 34), none, .e (.call 18 [(.c (.int .i64 10000))])⟩,
    .run ⟨(some 33), none, .f (.mv (.t 34))⟩,
    .run ⟨(some 35), none, .f (.extract (.t 33) 0)⟩,
    .run ⟨(some 36), none, .f (.extract (.t 33) 1)⟩,
    .run ⟨(some 11), none, .f (.mv (.t 35))⟩,
    .run ⟨(some 12), none, .f (.mv (.t 36))⟩])
   (.seq (.seq (.reg [] [.run ⟨(some 37), none, .f (.mv (.t 11))⟩,
    .run ⟨(some 38), none, .f (.mv (.t 0))⟩,
    .run ⟨(some 39), none, .e (.call 19 [(.t 37), (.c (.str (mkS [97]))), (.t 38)])⟩,
    .run ⟨(some 40), none, .f (.bin .neq (.t 39) (.c (.int .i64 0)))⟩,
    .run ⟨(some 41), none, .f (.mv (.t 40))⟩,
    .run ⟨(some 42), (some (41, false)), .f (.mv (.t 11))⟩,
    .run ⟨(some 43), (some (41, false)), .e (.call 20 [(.t 42), (.c (.str (mkS [97])))])⟩,
    .run ⟨(some 44), (some (41, false)), .f (.bin .neq (.t 43) (.c (.int .i64 0)))⟩,
    .run ⟨(some 45), none, .f (.pick (.t 41) (.c (.bool true)) (.t 44))⟩,
    .run ⟨(some 46), none, .f (.mv (.t 45))⟩,
    .run ⟨(some 47), (some (46, false)), .f (.mv (.t 11))⟩,
    .run ⟨(some 48), (some (46, false)), .f (.mv (.t 3))⟩,
    .run ⟨(some 49), (some (46, false)), .f (.conv (.int .i64) (.t 48))⟩,
    .run ⟨(some 50), (some (46, false)), .f (.bin .rem (.t 49) (.c (.int .i64 7)))⟩,
    .run ⟨(some 51), (some (46, false)), .e (.call 24 [(.t 47), (.t 50)])⟩,
    .run ⟨(some 52), (some (46, false)), .f (.bin .neq (.t 51) (.c (.int .i64 0)))⟩,
    .run ⟨(some 53), none, .f (.pick (.t 46) (.c (.bool true)) (.t 52))⟩])
   (.ite (.t 53)
   (.seq (.reg [] [.run ⟨(some 10), none, .f (.mv (.c (.bool false)))⟩])
   .ret)
   .skip))
   r_l02_DiskLasts_2))
def b_l02_DiskLasts : Cd := (.seq (.reg [] [.run ⟨(some 10), none, .f (.mv (.c (.bool false)))⟩])
   (.seq (.seq (.reg [] [.run ⟨(some 19), none, .e (.call 15 [])⟩,
    .run ⟨(some 20), none, .f (.un .not (.t 19))⟩,
    .run ⟨(some 21), none, .f (.mv (.t 20))⟩,
    .run ⟨(some 22), (some (21, false)), .f (.mv (.t 0))⟩,
    .run ⟨(some 23), (some (21, false)), .f (.len .sl (.t 22))⟩,
    .run ⟨(some 24), (some (21, false)), .f (.mv (.t 1))⟩,
    .run ⟨(some 25), (some (21, false)), .f (.len .sl (.t 24))⟩,
    .run ⟨(some 26), (some (21, false)), .f (.bin .add (.t 23) (.t 25))⟩,
    .run ⟨(some 27), (some (21, false)), .f (.mv (.t 2))⟩,
    .run ⟨(some 28), (some (21, false)), .f (.len .sl (.t 27))⟩,
    .run ⟨(some 29), (some (21, false)), .f (.bin .add (.t 26) (.t 28))⟩,
    .run ⟨(some 30), (some (21, false)), .f (.bin .gtr (.t 29) (.c (.int .i64 3000)))⟩,
    .run ⟨(some 31), none, .f (.pick (.t 21) (.c (.bool true)) (.t 30))⟩])
   (.ite (.t 31)
   (.seq (.reg [] [.run ⟨(some 32), none, .e (.call 15 [])⟩,
    .run ⟨(some 10), none, .f (.mv (.t 32))⟩])
   .ret)
   .skip))
   r_l02_DiskLasts_3))
theorem k_l02_DiskLasts : chkFn Try.prog n_l02_DiskLasts ⟨b_l02_DiskLasts, [.tmp 10], 157⟩ = true := by kernel_rfl
/-- fascine/fascinelaw02.DiskNames -/
abbrev n_l02_DiskNames : Nat := 3
def b_l02_DiskNames : Cd := (.seq (.reg [] [.run ⟨(some 2), none, .f (.mv (.c (.bool false)))⟩])
   (.seq (.reg [] [.run ⟨(some 3), none, .e (.call 15 [])⟩,
    .run ⟨(some 4), none, .f (.mv (.t 3))⟩,
    .run ⟨(some 5), (some (4, true)), .f (.mv (.t 0))⟩,
    .run ⟨(some 6), (some (4, true)), .e (.call 16 [(.t 5)])⟩,
    .run ⟨(some 7), (some (4, true)), .f (.mv (.t 0))⟩,
    .run ⟨(some 8), (some (4, true)), .e (.call 17 [(.t 7)])⟩,
    .run ⟨(some 9), (some (4, true)), .f (.eq false .bool (.t 6) (.t 8))⟩,
    .run ⟨(some 10), none, .f (.pick (.t 4) (.t 9) (.c (.bool false)))⟩,
    .run ⟨(some 2), none, .f (.mv (.t 10))⟩])
   .ret))
theorem k_l02_DiskNames : chkFn Try.prog n_l02_DiskNames ⟨b_l02_DiskNames, [.tmp 2], 11⟩ = true := by kernel_rfl
/-- fascine/fascinelaw02.DiskNil -/
abbrev n_l02_DiskNil : Nat := 8
def b_l02_DiskNil : Cd := (.seq (.reg [] [.run ⟨(some 6), none, .f (.mv (.c (.bool false)))⟩])
   (.seq (.reg [] [.run ⟨(some 7), none, .f (.mv (.c (.ptr none)))⟩])
   (.seq (.reg [] [.run ⟨(some 11), none, .f (.mv (.t 7))⟩,
    .run ⟨(some 12), none, .f (.mv (.t 0))⟩,
    .run ⟨(some 13), none, .e (.call 21 [(.t 11), (.t 12)])⟩,
    .run ⟨(some 10), none, .f (.mv (.t 13))⟩,
    .run ⟨(some 14), none, .f (.extract (.t 10) 0)⟩,
    .run ⟨(some 15), none, .f (.extract (.t 10) 1)⟩,
    .run ⟨(some 8), none, .f (.mv (.t 14))⟩,
    .run ⟨(some 9), none, .f (.mv (.t 15))⟩])
   (.seq (.reg [] [.run ⟨(some 16), none, .e (.call 15 [])⟩,
    .run ⟨(some 17), none, .f (.mv (.t 16))⟩,
    .run ⟨(some 18), (some (17, true)), .f (.mv (.t 7))⟩,
    .run ⟨(some 19), (some (17, true)), .f (.mv (.t 0))⟩,
    .run ⟨(some 20), (some (17, true)), .f (.mv (.t 1))⟩,
    .run ⟨(some 21), (some (17, true)), .e (.call 19 [(.t 18), (.t 19), (.t 20)])⟩,
    .run ⟨(some 22), (some (17, true)), .f (.bin .eql (.t 21) (.c (.int .i64 8)))⟩,
    .run ⟨(some 23), none, .f (.pick (.t 17) (.t 22) (.c (.bool false)))⟩,
    .run ⟨(some 24), none, .f (.mv (.t 23))⟩,
    .run ⟨(some 25), (some (24, true)), .f (.mv (.t 7))⟩,
    .run ⟨(some 26), (some (24, true)), .f (.mv (.t 0))⟩,
    .run ⟨(some 27), (some (24, true)), .f (.mv (.t 1))⟩,
    .run ⟨(some 28), (some (24, true)), .e (.call 25 [(.t 25), (.t 26), (.t 27)])⟩,
    .run ⟨(some 29), (some (24, true)), .f (.bin .eql (.t 28) (.c (.int .i64 8)))⟩,
    .run ⟨(some 30), none, .f (.pick (.t 24) (.t 29) (.c (.bool false)))⟩,
    .run ⟨(some 31), none, .f (.mv (.t 30))⟩,
    .run ⟨(some 32), (some (31, true)), .f (.mv (.t 7))⟩,
    .run ⟨(some 33), (some (31, true)), .f (.mv (.t 0))⟩,
    .run ⟨(some 34), (some (31, true)), .e (.call 20 [(.t 32), (.t 33)])⟩,
    .run ⟨(some 35), (some (31, true)), .f (.bin .eql (.t 34) (.c (.int .i64 8)))⟩,
    .run ⟨(some 36), none, .f (.pick (.t 31) (.t 35) (.c (.bool false)))⟩,
    .run ⟨(some 37), none, .f (.mv (.t 36))⟩,
    .run ⟨(some 38), (some (37, true)), .f (.mv (.t 7))⟩,
    .run ⟨(some 39), (some (37, true)), .f (.mv (.t 0))⟩,
    .run ⟨(some 40), (some (37, true)), .e (.call 32 [(.t 38), (.t 39)])⟩,
    .run ⟨(some 41), (some (37, true)), .f (.bin .eql (.t 40) (.c (.int .i64 8)))⟩,
    .run ⟨(some 42), none, .f (.pick (.t 37) (.t 41) (.c (.bool false)))⟩,
    .run ⟨(some 43), none, .f (.mv (.t 42))⟩,
    .run ⟨(some 44), (some (43, true)), .f (.mv (.t 7))⟩,
    .run ⟨(some 45), (some (43, true)), .f (.mv (.t 0))⟩,
    .run ⟨(some 46), (some (43, true)), .f (.mv (.t 0))⟩,
    .run ⟨(some 47), (some (43, true)), .e (.call 26 [(.t 44), (.t 45), (.t 46)])⟩,
    .run ⟨(some 48), (some (43, true)), .f (.bin .eql (.t 47) (.c (.int .i64 8)))⟩,
    .run ⟨(some 49), none, .f (.pick (.t 43) (.t 48) (.c (.bool false)))⟩,
    .run ⟨(some 50), none, .f (.mv (.t 49))⟩,
    .run ⟨(some 51), (some (50, true)), .f (.mv (.t 9))⟩,
    .run ⟨(some 52), (some (50, true)), .f (.bin .eql (.t 51) (.c (.int .i64 8)))⟩,
    .run ⟨(some 53), none, .f (.pick (.t 50) (.t 52) (.c (.bool false)))⟩,
    .run ⟨(some 54), none, .f (.mv (.t 53))⟩,
    .run ⟨(some 55), (some (54, true)), .f (.mv (.t 8))⟩,
    .run ⟨(some 56), (some (54, true)), .f (.len .sl (.t 55))⟩,
    .run ⟨(some 57), (some (54, true)), .f (.bin .eql (.t 56) (.c (.int .i64 0)))⟩,
    .run ⟨(some 58), none, .f (.pick (.t 54) (.t 57) (.c (.bool false)))⟩,
    .run ⟨(some 59), none, .f (.mv (.t 58))⟩,
    .run ⟨(some 60), (some (59, true)), .f (.mv (.t 7))⟩,
    .run ⟨(some 61), (some (59, true)), .e (.call 28 [(.t 60)])⟩,
    .run ⟨(some 62), (some (59, true)), .f (.len .sl (.t 61))⟩,
    .run ⟨(some 63), (some (59, true)), .f (.bin .eql (.t 62) (.c (.int .i64 0)))⟩,
    .run ⟨(some 64), none, .f (.pick (.t 59) (.t 63) (.c (.bool false)))⟩,
    .run ⟨(some 65), none, .f (.mv (.t 64))⟩,
    .run ⟨(some 66), (some (65, true)), .f (.mv (.t 7))⟩,
    .run ⟨(some 67), (some (65, true)), .f (.mv (.t 0))⟩,
    .run ⟨(some 68), (some (65, true)), .e (.call 23 [(.t 66), (.t 67)])⟩,
    .run ⟨(some 69), (some (65, true)), .f (.bin .eql (.t 68) (.c (.int .i64 0)))⟩,
    .run ⟨(some 70), none, .f (.pick (.t 65) (.t 69) (.c (.bool false)))⟩,
    .run ⟨(some 71), none, .f (.mv (.t 70))⟩,
    .run ⟨(some 72), (some (71, true)), .f (.mv (.t 7))⟩,
    .run ⟨(some 73), (some (71, true)), .f (.mv (.t 2))⟩,
    .run ⟨(some 74), (some (71, true)), .e (.call 24 [(.t 72), (.t 73)])⟩,
    .run ⟨(some 75), (some (71, true)), .f (.bin .eql (.t 74) (.c (.int .i64 8)))⟩,
    .run ⟨(some 76), none, .f (.pick (.t 71) (.t 75) (.c (.bool false)))⟩,
    .run ⟨(some 77), none, .f (.mv (.t 76))⟩,
    .run ⟨(some 78), (some (77, true)), .f (.mv (.t 7))⟩,
    .run ⟨(some 79), (some (77, true)), .e (.call 22 [(.t 78), (.c (.sl [] 0 1 .nil))])⟩,
    .run ⟨(some 80), (some (77, true)), .f (.bin .eql (.t 79) (.c (.int .i64 8)))⟩,
    .run ⟨(some 81), none, .f (.pick (.t 77) (.t 80) (.c (.bool false)))⟩,
    .run ⟨(some 82), none, .f (.mv (.t 81))⟩,
    .run ⟨(some 83), (some (82, true)), .f (.mv (.t 7))⟩,
    .run ⟨(some 84), (some (82, true)), .e (.call 33 [(.t 83)])⟩,
    .run ⟨(some 85), (some (82, true)), .f (.mv (.t 7))⟩,
    .run ⟨(some 86), (some (82, true)), .e (.call 30 [(.t 85)])⟩,
    .run ⟨(some 87), (some (82, true)), .f (.bin .add (.t 84) (.t 86))⟩,
    .run ⟨(some 88), (some (82, true)), .f (.bin .eql (.t 87) (.c (.int .i64 0)))⟩,
    .run ⟨(some 89), none, .f (.pick (.t 82) (.t 88) (.c (.bool false)))⟩,
    .run ⟨(some 90), none, .f (.mv (.t 89))⟩,
    .run ⟨(some 91), (some (90, true)), .f (.mv (.t 7))⟩,
    .run ⟨(some 92), (some (90, true)), .e (.call 29 [(.t 91)])⟩,
    .run ⟨(some 93), (some (90, true)), .f (.un .not (.t 92))⟩,
    .run ⟨(some 94), none, .f (.pick (.t 90) (.t 93) (.c (.bool false)))⟩,
    .run ⟨(some 6), none, .f (.mv (.t 94))⟩])
   .ret))))
theorem k_l02_DiskNil : chkFn Try.prog n_l02_DiskNil ⟨b_l02_DiskNil, [.tmp 6], 95⟩ = true := by kernel_rfl
/-- fascine/fascinelaw02.DiskOff -/
abbrev n_l02_DiskOff : Nat := 9
def k_l02_DiskOff_0 : Cd := (.seq (.reg [] [.run ⟨(some 71), none, .f (.bin .eql (.t 64) (.c (.int .u8 0)))⟩,
    .run ⟨(some 70), none, .f (.mv (.t 71))⟩])
   (.ite (.t 70)
   (.reg [] [.run ⟨(some 72), none, .f (.mv (.t 5))⟩,
    .run ⟨(some 73), none, .f (.fieldAddr 3 (.t 9))⟩,
    .run ⟨(some 74), none, .f (.load false 1 (.t 73))⟩,
    .run ⟨(some 75), none, .e (.call 19 [(.t 72), (.c (.str (mkS [97]))), (.t 74)])⟩,
    .run ⟨(some 10), none, .f (.mv (.t 75))⟩])
   (.seq (.reg [] [.run ⟨(some 77), none, .f (.bin .eql (.t 64) (.c (.int .u8 1)))⟩,
    .run ⟨(some 76), none, .f (.mv (.t 77))⟩])
   (.ite (.t 76)
   (.reg [] [.run ⟨(some 78), none, .f (.mv (.t 5))⟩,
    .run ⟨(some 79), none, .f (.fieldAddr 3 (.t 9))⟩,
    .run ⟨(some 80), none, .f (.load false 1 (.t 79))⟩,
    .run ⟨(some 81), none, .e (.call 25 [(.t 78), (.c (.str (mkS [98]))), (.t 80)])⟩,
    .run ⟨(some 10), none, .f (.mv (.t 81))⟩])
   (.seq (.reg [] [.run ⟨(some 83), none, .f (.bin .eql (.t 64) (.c (.int .u8 2)))⟩,
    .run ⟨(some 82), none, .f (.mv (.t 83))⟩])
   (.ite (.t 82)
   (.reg [] [.run ⟨(some 84), none, .f (.mv (.t 5))⟩,
    .run ⟨(some 85), none, .e (.call 20 [(.t 84), (.c (.str (mkS [97])))])⟩,
    .run ⟨(some 10), none, .f (.mv (.t 85))⟩])
   (.seq (.reg [] [.run ⟨(some 87), none, .f (.bin .eql (.t 64) (.c (.int .u8 3)))⟩,
    .run ⟨(some 86), none, .f (.mv (.t 87))⟩])
   (.ite (.t 86)
   (.reg [] [.run ⟨(some 88), none, .f (.mv (.t 5))⟩,
    .run ⟨(some 89), none, .e (.call 32 [(.t 88), (.c (.str (mkS [97])))])⟩,
    .run ⟨(some 10), none, .f (.mv (.t 89))⟩])
   (.seq (.reg [] [.run ⟨(some 91), none, .f (.bin .eql (.t 64) (.c (.int .u8 4)))⟩,
    .run ⟨(some 90), none, .f (.mv (.t 91))⟩])
   (.ite (.t 90)
   (.reg [] [.run ⟨(some 92), none, .f (.mv (.t 5))⟩,
    .run ⟨(some 93), none, .e (.call 26 [(.t 92), (.c (.str (mkS [97]))), (.c (.str (mkS [99])))])⟩,
    .run ⟨(some 10), none, .f (.mv (.t 93))⟩])
   (.reg [] [.run ⟨(some 66), none, .f (.mv (.t 5))⟩,
    .run ⟨(some 67), none, .e (.call 21 [(.t 66), (.c (.str (mkS [97])))])⟩,
    .run ⟨(some 65), none, .f (.mv (.t 67))⟩,
    .run ⟨(some 68), none, .f (.extract (.t 65) 0)⟩,
    .run ⟨(some 69), none, .f (.extract (.t 65) 1)⟩,
    .run ⟨(some 10), none, .f (.mv (.t 69))⟩])))))))))))
def l_l02_DiskOff_0 : Cd := (.seq (.seq (.reg [] [.run ⟨(some 44), none, .f (.mv (.t 8))⟩,
    .run ⟨(some 45), none, .f (.mv (.t 1))⟩,
    .run ⟨(some 46), none, .f (.len .sl (.t 45))⟩,
    .run ⟨(some 47), none, .f (.bin .lss (.t 44) (.t 46))⟩,
    .run ⟨(some 48), none, .f (.mv (.t 47))⟩,
    .run ⟨(some 49), (some (48, true)), .f (.mv (.t 8))⟩,
    .run ⟨(some 50), (some (48, true)), .f (.bin .lss (.t 49) (.c (.int .i64 50)))⟩,
    .run ⟨(some 51), none, .f (.pick (.t 48) (.t 50) (.c (.bool false)))⟩])
   (.ite (.t 51)
   .skip
   (.exit 0)))
   (.seq (.blk 1 (.seq (.reg [] [.run ⟨(some 54), none, .f (.mv (.t 1))⟩,
    .run ⟨(some 55), none, .f (.mv (.t 8))⟩,
    .run ⟨(some 56), none, .f (.indexAddr 6 (.t 54) (.t 55))⟩,
    .run ⟨(some 57), none, .f (.load true 6 (.t 56))⟩,
    .run ⟨(some 9), none, .e (.alloc [(.int .u8 0), (.str (mkS [])), (.str (mkS [])), (.sl [] 0 1 .nil), (.int .i64 0), (.sl [] 0 1 .nil)])⟩,
    .run ⟨none, none, .e (.store 6 (.t 9) (.t 57))⟩])
   (.seq (.seq (.reg [] [.run ⟨(some 58), none, .f (.fieldAddr 0 (.t 9))⟩,
    .run ⟨(some 59), none, .f (.load false 1 (.t 58))⟩,
    .run ⟨(some 60), none, .f (.bin .rem (.t 59) (.c (.int .u8 8)))⟩,
    .run ⟨(some 61), none, .f (.bin .geq (.t 60) (.c (.int .u8 6)))⟩])
   (.ite (.t 61)
   (.exit 1)
   .skip))
   (.seq (.reg [] [.run ⟨(some 10), none, .f (.mv (.c (.int .i64 0)))⟩])
   (.seq (.seq (.reg [] [.run ⟨(some 62), none, .f (.fieldAddr 0 (.t 9))⟩,
    .run ⟨(some 63), none, .f (.load false 1 (.t 62))⟩,
    .run ⟨(some 64), none, .f (.bin .rem (.t 63) (.c (.int .u8 8)))⟩])
   (.blk 2 k_l02_DiskOff_0))
   (.seq (.reg [] [.run ⟨(some 94), none, .f (.mv (.t 10))⟩,
    .run ⟨(some 95), none, .f (.bin .neq (.t 94) (.c (.int .i64 10)))⟩])
   (.ite (.t 95)
   (.seq (.reg [] [.run ⟨(some 4), none, .f (.mv (.c (.bool false)))⟩])
   .ret)
   .skip)))))))
   (.reg [] [.run ⟨(some 52), none, .f (.mv (.t 8))⟩,
    .run ⟨(some 53), none, .f (.bin .add (.t 52) (.c (.int .i64 1)))⟩,
    .run ⟨(some 8), none, .f (.mv (.t 53))⟩])))
def s_l02_DiskOff_0 : Cd := (.seq (.reg [] [.run ⟨(some 96), none, .f (.mv (.t 5))⟩,
    .run ⟨(some 97), none, .e (.call 28 [(.t 96)])⟩,
    .run ⟨(some 11), none, .f (.mv (.t 97))⟩])
   (.seq (.reg [] [.run ⟨(some 98), none, .f (.mv (.t 5))⟩,
    .run ⟨(some 99), none, .e (.call 33 [(.t 98)])⟩,
    .run ⟨(some 100), none, .f (.mv (.t 7))⟩,
    .run ⟨(some 101), none, .f (.bin .eql (.t 99) (.t 100))⟩,
    .run ⟨(some 102), none, .f (.mv (.t 101))⟩,
    .run ⟨(some 103), (some (102, true)), .f (.mv (.t 11))⟩,
    .run ⟨(some 104), (some (102, true)), .f (.len .sl (.t 103))⟩,
    .run ⟨(some 105), (some (102, true)), .f (.bin .eql (.t 104) (.c (.int .i64 1)))⟩,
    .run ⟨(some 106), none, .f (.pick (.t 102) (.t 105) (.c (.bool false)))⟩,
    .run ⟨(some 107), none, .f (.mv (.t 106))⟩,
    .run ⟨(some 108), (some (107, true)), .f (.mv (.t 11))⟩,
    .run ⟨(some 109), (some (107, true)), .f (.indexAddr 1 (.t 108) (.c (.int .i64 0)))⟩,
    .run ⟨(some 110), (some (107, true)), .f (.load false 1 (.t 109))⟩,
    .run ⟨(some 111), (some (107, true)), .f (.bin .eql (.t 110) (.c (.str (mkS [97]))))⟩,
    .run ⟨(some 112), none, .f (.pick (.t 107) (.t 111) (.c (.bool false)))⟩,
    .run ⟨(some 113), none, .f (.mv (.t 112))⟩,
    .run ⟨(some 114), (some (113, true)), .f (.mv (.t 5))⟩,
    .run ⟨(some 115), (some (113, true)), .e (.call 30 [(.t 114)])⟩,
    .run ⟨(some 116), (some (113, true)), .f (.mv (.t 0))⟩,
    .run ⟨(some 117), (some (113, true)), .f (.len .sl (.t 116))⟩,
    .run ⟨(some 118), (some (113, true)), .f (.bin .eql (.t 115) (.t 117))⟩,
    .run ⟨(some 119), none, .f (.pick (.t 113) (.t 118) (.c (.bool false)))⟩,
    .run ⟨(some 120), none, .f (.mv (.t 119))⟩,
    .run ⟨(some 121), (some (120, true)), .f (.mv (.t 5))⟩,
    .run ⟨(some 122), (some (120, true)), .e (.call 23 [(.t 121), (.c (.str (mkS [97])))])⟩,
    .run ⟨(some 123), (some (120, true)), .f (.bin .eql (.t 122) (.c (.int .i64 0)))⟩,
    .run ⟨(some 124), none, .f (.pick (.t 120) (.t 123) (.c (.bool false)))⟩,
    .run ⟨(some 4), none, .f (.mv (.t 124))⟩])
   .ret))
def b_l02_DiskOff : Cd := (.seq (.reg [] [.run ⟨(some 4), none, .f (.mv (.c (.bool false)))⟩])
   (.seq (.seq (.reg [] [.run ⟨(some 12), none, .e (.call 15 [])⟩,
    .run ⟨(some 13), none, .f (.un .not (.t 12))⟩,
    .run ⟨(some 14), none, .f (.mv (.t 13))⟩,
    .run ⟨(some 15), (some (14, false)), .f (.mv (.t 0))⟩,
    .run ⟨(some 16), (some (14, false)), .f (.len .sl (.t 15))⟩,
    .run ⟨(some 17), (some (14, false)), .f (.bin .gtr (.t 16) (.c (.int .i64 500)))⟩,
    .run ⟨(some 18), none, .f (.pick (.t 14) (.c (.bool true)) (.t 17))⟩])
   (.ite (.t 18)
   (.seq (.reg [] [.run ⟨(some 19), none, .e (.call 15 [])⟩,
    .run ⟨(some 4), none, .f (.mv (.t 19))⟩])
   .ret)
   .skip))
   (.seq (.reg [] [.run ⟨(some 21), none, .e (.call 18 [(.c (.int .i64 2000))])⟩,
    .run ⟨(some 20), none, .f (.mv (.t 21))⟩,
    .run ⟨(some 22), none, .f (.extract (.t 20) 0)⟩,
    .run ⟨(some 23), none, .f (.extract (.t 20) 1)⟩,
    .run ⟨(some 5), none, .f (.mv (.t 22))⟩,
    .run ⟨(some 6), none, .f (.mv (.t 23))⟩])
   (.seq (.seq (.reg [] [.run ⟨(some 24), none, .f (.mv (.t 5))⟩,
    .run ⟨(some 25), none, .f (.mv (.t 0))⟩,
    .run ⟨(some 26), none, .e (.call 19 [(.t 24), (.c (.str (mkS [97]))), (.t 25)])⟩,
    .run ⟨(some 27), none, .f (.bin .neq (.t 26) (.c (.int .i64 0)))⟩,
    .run ⟨(some 28), none, .f (.mv (.t 27))⟩,
    .run ⟨(some 29), (some (28, false)), .f (.mv (.t 5))⟩,
    .run ⟨(some 30), (some (28, false)), .e (.call 24 [(.t 29), (.c (.int .i64 1))])⟩,
    .run ⟨(some 31), (some (28, false)), .f (.bin .neq (.t 30) (.c (.int .i64 0)))⟩,
    .run ⟨(some 32), none, .f (.pick (.t 28) (.c (.bool true)) (.t 31))⟩,
    .run ⟨(some 33), none, .f (.mv (.t 32))⟩,
    .run ⟨(some 34), (some (33, false)), .f (.mv (.t 5))⟩,
    .run ⟨(some 35), (some (33, false)), .e (.call 20 [(.t 34), (.c (.str (mkS [97])))])⟩,
    .run ⟨(some 36), (some (33, false)), .f (.bin .neq (.t 35) (.c (.int .i64 10)))⟩,
    .run ⟨(some 37), none, .f (.pick (.t 33) (.c (.bool true)) (.t 36))⟩,
    .run ⟨(some 38), none, .f (.mv (.t 37))⟩,
    .run ⟨(some 39), (some (38, false)), .f (.mv (.t 5))⟩,
    .run ⟨(some 40), (some (38, false)), .e (.call 29 [(.t 39)])⟩,
    .run ⟨(some 41), none, .f (.pick (.t 38) (.c (.bool true)) (.t 40))⟩])
   (.ite (.t 41)
   (.seq (.reg [] [.run ⟨(some 4), none, .f (.mv (.c (.bool false)))⟩])
   .ret)
   .skip))
   (.seq (.reg [] [.run ⟨(some 42), none, .f (.mv (.t 5))⟩,
    .run ⟨(some 43), none, .e (.call 33 [(.t 42)])⟩,
    .run ⟨(some 7), none, .f (.mv (.t 43))⟩])
   (.seq (.seq (.reg [] [.run ⟨(some 8), none, .f (.mv (.c (.int .i64 0)))⟩])
   (.blk 0 (.loop l_l02_DiskOff_0)))
   s_l02_DiskOff_0))))))
theorem k_l02_DiskOff : chkFn Try.prog n_l02_DiskOff ⟨b_l02_DiskOff, [.tmp 4], 125⟩ = true := by kernel_rfl
/-- fascine/fascinelaw02.awake -/
abbrev n_l02_awake : Nat := 15
def b_l02_awake : Cd := (.seq (.reg [] [.run ⟨(some 0), none, .f (.mv (.c (.bool false)))⟩])
   (.seq (.reg [] [.run ⟨(some 4), none, .e (.call 18 [(.c (.int .i64 10))])⟩,
    .run ⟨(some 3), none, .f (.mv (.t 4))⟩,
    .run ⟨(some 5), none, .f (.extract (.t 3) 0)⟩,
    .run ⟨(some 6), none, .f (.extract (.t 3) 1)⟩,
    .run ⟨(some 1), none, .f (.mv (.t 5))⟩,
    .run ⟨(some 2), none, .f (.mv (.t 6))⟩])
   (.seq (.seq (.reg [] [.run ⟨(some 7), none, .f (.mv (.t 2))⟩,
    .run ⟨(some 8), none, .f (.bin .neq (.t 7) (.c (.int .i64 0)))⟩,
    .run ⟨(some 9), none, .f (.mv (.t 8))⟩,
    .run ⟨(some 10), (some (9, false)), .f (.mv (.t 1))⟩,
    .run ⟨(some 11), (some (9, false)), .f (.eq false .ptr (.t 10) (.c (.ptr none)))⟩,
    .run ⟨(some 12), none, .f (.pick (.t 9) (.c (.bool true)) (.t 11))⟩])
   (.ite (.t 12)
   (.seq (.reg [] [.run ⟨(some 0), none, .f (.mv (.c (.bool false)))⟩])
   .ret)
   .skip))
   (.seq (.reg [] [.run ⟨(some 13), none, .f (.mv (.t 1))⟩,
    .run ⟨(some 14), none, .e (.buildSlice 5 1 2 [(.int .u8 0), (.int .u8 0), (.int .u8 0), (.int .u8 0), (.int .u8 0)] [(0, 1, (.c (.int .u8 49))), (1, 1, (.c (.int .u8 50))), (2, 1, (.c (.int .u8 51))), (3, 1, (.c (.int .u8 52))), (4, 1, (.c (.int .u8 53)))])⟩,
    .run ⟨(some 15), none, .e (.bytesSame (.t 14))⟩,
    .run ⟨(some 16), none, .e (.call 19 [(.t 13), (.c (.str (mkS [97]))), (.t 15)])⟩,
    .run ⟨(some 17), none, .f (.bin .eql (.t 16) (.c (.int .i64 0)))⟩,
    .run ⟨(some 18), none, .f (.mv (.t 17))⟩,
    .run ⟨(some 19), (some (18, true)), .f (.mv (.t 1))⟩,
    .run ⟨(some 20), (some (18, true)), .e (.call 20 [(.t 19), (.c (.str (mkS [97])))])⟩,
    .run ⟨(some 21), (some (18, true)), .f (.bin .eql (.t 20) (.c (.int .i64 0)))⟩,
    .run ⟨(some 22), none, .f (.pick (.t 18) (.t 21) (.c (.bool false)))⟩,
    .run ⟨(some 23), none, .f (.mv (.t 22))⟩,
    .run ⟨(some 24), (some (23, true)), .f (.mv (.t 1))⟩,
    .run ⟨(some 25), (some (23, true)), .e (.buildSlice 3 1 2 [(.int .u8 0), (.int .u8 0), (.int .u8 0)] [(0, 1, (.c (.int .u8 54))), (1, 1, (.c (.int .u8 55))), (2, 1, (.c (.int .u8 56)))])⟩,
    .run ⟨(some 26), (some (23, true)), .e (.bytesSame (.t 25))⟩,
    .run ⟨(some 27), (some (23, true)), .e (.call 19 [(.t 24), (.c (.str (mkS [97]))), (.t 26)])⟩,
    .run ⟨(some 28), (some (23, true)), .f (.bin .eql (.t 27) (.c (.int .i64 0)))⟩,
    .run ⟨(some 29), none, .f (.pick (.t 23) (.t 28) (.c (.bool false)))⟩,
    .run ⟨(some 30), none, .f (.mv (.t 29))⟩,
    .run ⟨(some 31), (some (30, true)), .f (.mv (.t 1))⟩,
    .run ⟨(some 32), (some (30, true)), .e (.buildSlice 1 1 0 [(.int .i64 0)] [(0, 1, (.c (.int .i64 2)))])⟩,
    .run ⟨(some 33), (some (30, true)), .e (.call 22 [(.t 31), (.t 32)])⟩,
    .run ⟨(some 34), (some (30, true)), .f (.bin .eql (.t 33) (.c (.int .i64 0)))⟩,
    .run ⟨(some 35), none, .f (.pick (.t 30) (.t 34) (.c (.bool false)))⟩,
    .run ⟨(some 36), none, .f (.mv (.t 35))⟩,
    .run ⟨(some 37), (some (36, true)), .f (.mv (.t 1))⟩,
    .run ⟨(some 38), (some (36, true)), .e (.call 23 [(.t 37), (.c (.str (mkS [97])))])⟩,
    .run ⟨(some 39), (some (36, true)), .f (.bin .eql (.t 38) (.c (.int .i64 7)))⟩,
    .run ⟨(some 40), none, .f (.pick (.t 36) (.t 39) (.c (.bool false)))⟩,
    .run ⟨(some 0), none, .f (.mv (.t 40))⟩])
   .ret))))
theorem k_l02_awake : chkFn Try.prog n_l02_awake ⟨b_l02_awake, [.tmp 0], 41⟩ = true := by kernel_rfl
/-- maps.Keys[map[string]*fascine/disk.file,string,*fascine/disk.file] -/
abbrev n_maps_Keys_map_string_disk_file_string_disk_file : Nat := 58
def b_maps_Keys_map_string_disk_file_string_disk_file : Cd := (.seq (.reg [] [.run ⟨(some 1), none, .e (.box (.t 0))⟩,
    .run ⟨(some 2), none, .f (.mv (.c .nilFunc))⟩])
   (.seq (.reg [] [.run ⟨(some 3), none, .f (.mkFunc 73 [] [(.t 1)])⟩,
    .run ⟨(some 2), none, .f (.mv (.t 3))⟩])
   .ret))
theorem k_maps_Keys_map_string_disk_file_string_disk_file : chkFn Try.prog n_maps_Keys_map_string_disk_file_string_disk_file ⟨b_maps_Keys_map_string_disk_file_string_disk_file, [.tmp 2], 4⟩ = true := by kernel_rfl
/-- fascine/fascineref02.Name -/
abbrev n_r02_Name : Nat := 17
def k_r02_Name_0 : Cd := (.seq (.reg [] [.run ⟨(some 19), none, .f (.mv (.t 0))⟩,
    .run ⟨(some 20), none, .f (.mv (.t 3))⟩,
    .run ⟨(some 21), none, .f (.indexS (.t 19) (.t 20))⟩,
    .run ⟨(some 4), none, .f (.mv (.t 21))⟩])
   (.seq (.reg [] [.run ⟨(some 22), none, .f (.mv (.t 4))⟩,
    .run ⟨(some 23), none, .f (.bin .geq (.t 22) (.c (.int .u8 97)))⟩,
    .run ⟨(some 24), none, .f (.mv (.t 23))⟩,
    .run ⟨(some 25), (some (24, true)), .f (.mv (.t 4))⟩,
    .run ⟨(some 26), (some (24, true)), .f (.bin .leq (.t 25) (.c (.int .u8 122)))⟩,
    .run ⟨(some 27), none, .f (.pick (.t 24) (.t 26) (.c (.bool false)))⟩,
    .run ⟨(some 28), none, .f (.un .not (.t 27))⟩,
    .run ⟨(some 29), none, .f (.mv (.t 28))⟩,
    .run ⟨(some 30), (some (29, true)), .f (.mv (.t 4))⟩,
    .run ⟨(some 31), (some (29, true)), .f (.bin .geq (.t 30) (.c (.int .u8 48)))⟩,
    .run ⟨(some 32), (some (29, true)), .f (.mv (.t 31))⟩,
    .run ⟨(some 33), (some (32, true)), .f (.mv (.t 4))⟩,
    .run ⟨(some 34), (some (32, true)), .f (.bin .leq (.t 33) (.c (.int .u8 57)))⟩,
    .run ⟨(some 35), (some (29, true)), .f (.pick (.t 32) (.t 34) (.c (.bool false)))⟩,
    .run ⟨(some 36), (some (29, true)), .f (.un .not (.t 35))⟩,
    .run ⟨(some 37), none, .f (.pick (.t 29) (.t 36) (.c (.bool false)))⟩,
    .run ⟨(some 38), none, .f (.mv (.t 37))⟩,
    .run ⟨(some 39), (some (38, true)), .f (.mv (.t 4))⟩,
    .run ⟨(some 40), (some (38, true)), .f (.bin .neq (.t 39) (.c (.int .u8 46)))⟩,
    .run ⟨(some 41), none, .f (.pick (.t 38) (.t 40) (.c (.bool false)))⟩,
    .run ⟨(some 42), none, .f (.mv (.t 41))⟩,
    .run ⟨(some 43), (some (42, true)), .f (.mv (.t 4))⟩,
    .run ⟨(some 44), (some (42, true)), .f (.bin .neq (.t 43) (.c (.int .u8 45)))⟩,
    .run ⟨(some 45), none, .f (.pick (.t 42) (.t 44) (.c (.bool false)))⟩])
   (.ite (.t 45)
   (.seq (.reg [] [.run ⟨(some 2), none, .f (.mv (.c (.bool false)))⟩])
   .ret)
   .skip)))
def l_r02_Name_0 : Cd := (.seq (.seq (.reg [] [.run ⟨(some 13), none, .f (.mv (.t 3))⟩,
    .run ⟨(some 14), none, .f (.mv (.t 0))⟩,
    .run ⟨(some 15), none, .f (.len .str (.t 14))⟩,
    .run ⟨(some 16), none, .f (.bin .lss (.t 13) (.t 15))⟩])
   (.ite (.t 16)
   .skip
   (.exit 0)))
   (.seq (.blk 1 k_r02_Name_0)
   (.reg [] [.run ⟨(some 17), none, .f (.mv (.t 3))⟩,
    .run ⟨(some 18), none, .f (.bin .add (.t 17) (.c (.int .i64 1)))⟩,
    .run ⟨(some 3), none, .f (.mv (.t 18))⟩])))
def b_r02_Name : Cd := (.seq (.reg [] [.run ⟨(some 2), none, .f (.mv (.c (.bool false)))⟩])
   (.seq (.seq (.reg [] [.run ⟨(some 5), none, .f (.mv (.t 0))⟩,
    .run ⟨(some 6), none, .f (.len .str (.t 5))⟩,
    .run ⟨(some 7), none, .f (.bin .lss (.t 6) (.c (.int .i64 1)))⟩,
    .run ⟨(some 8), none, .f (.mv (.t 7))⟩,
    .run ⟨(some 9), (some (8, false)), .f (.mv (.t 0))⟩,
    .run ⟨(some 10), (some (8, false)), .f (.len .str (.t 9))⟩,
    .run ⟨(some 11), (some (8, false)), .f (.bin .gtr (.t 10) (.c (.int .i64 32)))⟩,
    .run ⟨(some 12), none, .f (.pick (.t 8) (.c (.bool true)) (.t 11))⟩])
   (.ite (.t 12)
   (.seq (.reg [] [.run ⟨(some 2), none, .f (.mv (.c (.bool false)))⟩])
   .ret)
   .skip))
   (.seq (.seq (.reg [] [.run ⟨(some 3), none, .f (.mv (.c (.int .i64 0)))⟩])
   (.blk 0 (.loop l_r02_Name_0)))
   (.seq (.reg [] [.run ⟨(some 2), none, .f (.mv (.c (.bool true)))⟩])
   .ret))))
theorem k_r02_Name : chkFn Try.prog n_r02_Name ⟨b_r02_Name, [.tmp 2], 46⟩ = true := by kernel_rfl
/-- slices.Sorted[string] -/
abbrev n_slices_Sorted_string : Nat := 57
def b_slices_Sorted_string : Cd := (.seq (.reg [] [.run ⟨(some 2), none, .f (.mv (.c (.sl [] 0 1 .nil)))⟩])
   (.seq (.reg [] [.run ⟨(some 4), none, .f (.mv (.t 0))⟩,
    .run ⟨(some 5), none, .e (.call 71 [(.t 4)])⟩,
    .run ⟨(some 3), none, .f (.mv (.t 5))⟩])
   (.seq (.reg [] [.run ⟨(some 6), none, .f (.mv (.t 3))⟩,
    .run ⟨(some 7), none, .e (.call 72 [(.t 6)])⟩])
   (.seq (.reg [] [.run ⟨(some 8), none, .f (.mv (.t 3))⟩,
    .run ⟨(some 2), none, .f (.mv (.t 8))⟩])
   .ret))))
theorem k_slices_Sorted_string : chkFn Try.prog n_slices_Sorted_string ⟨b_slices_Sorted_string, [.tmp 2], 9⟩ = true := by kernel_rfl
end Go.VM
