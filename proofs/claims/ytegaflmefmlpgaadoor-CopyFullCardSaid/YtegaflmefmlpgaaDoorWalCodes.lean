/-
  The codes of functions, as the value machine has them, and that they stand for the model's (printed by a program, wip/gen).
-/
import Derived.Test.YtegaflmefmlpgaaDoorDCodes
import Derived.Test.YtegaflmefmlpgaaDoorProg
import Derived.KernelRfl
set_option linter.unusedVariables false
set_option maxRecDepth 100000
namespace Go.VM
open Go Go.Proofs

/-- (*fascine/wal.Log).Append -/
abbrev n_wal_Log_Append : Nat := 61
def b_wal_Log_Append : Cd := (.seq (.reg [] [.run ⟨(some 4), none, .f (.mv (.c (.int .i64 0)))⟩])
   (.seq (.seq (.reg [] [.run ⟨(some 8), none, .f (.mv (.t 0))⟩,
    .run ⟨(some 9), none, .f (.eq false .ptr (.t 8) (.c (.ptr none)))⟩])
   (.ite (.t 9)
   (.seq (.reg [] [.run ⟨(some 4), none, .f (.mv (.c (.int .i64 8)))⟩])
   .ret)
   .skip))
   (.seq (.reg [] [.run ⟨(some 11), none, .f (.mv (.t 1))⟩,
    .run ⟨(some 12), none, .e (.call 75 [(.t 11)])⟩,
    .run ⟨(some 10), none, .f (.mv (.t 12))⟩,
    .run ⟨(some 13), none, .f (.extract (.t 10) 0)⟩,
    .run ⟨(some 14), none, .f (.extract (.t 10) 1)⟩,
    .run ⟨(some 5), none, .f (.mv (.t 13))⟩,
    .run ⟨(some 6), none, .f (.mv (.t 14))⟩])
   (.seq (.seq (.reg [] [.run ⟨(some 15), none, .f (.mv (.t 6))⟩,
    .run ⟨(some 16), none, .f (.bin .neq (.t 15) (.c (.int .i64 0)))⟩])
   (.ite (.t 16)
   (.seq (.reg [] [.run ⟨(some 17), none, .f (.mv (.t 6))⟩,
    .run ⟨(some 4), none, .f (.mv (.t 17))⟩])
   .ret)
   .skip))
   (.seq (.seq (.reg [0, 1, 2, 3, 4, 5, 6, 7, 8, 9, 10] [.run ⟨(some 18), none, .f (.mv (.t 0))⟩,
    .run ⟨(some 19), none, .f (.nilCheck (.t 18))⟩,
    .run ⟨(some 20), none, .f (.fieldAddr 0 (.t 19))⟩,
    .run ⟨(some 21), none, .f (.load false 1 (.t 20))⟩,
    .run ⟨(some 22), none, .f (.mv (.t 0))⟩,
    .run ⟨(some 23), none, .f (.nilCheck (.t 22))⟩,
    .run ⟨(some 24), none, .f (.fieldAddr 1 (.t 23))⟩,
    .run ⟨(some 25), none, .f (.load false 1 (.t 24))⟩,
    .run ⟨(some 26), none, .f (.mv (.t 5))⟩,
    .run ⟨(some 27), none, .e (.call 76 [(.t 21), (.t 25), (.t 26)])⟩,
    .run ⟨(some 7), none, .f (.mv (.t 27))⟩])
   (.seq (.reg [] [.run ⟨(some 28), none, .f (.mv (.t 7))⟩,
    .run ⟨(some 29), none, .f (.bin .neq (.t 28) (.c (.int .i64 0)))⟩])
   (.ite (.t 29)
   (.seq (.reg [] [.run ⟨(some 30), none, .f (.mv (.t 7))⟩,
    .run ⟨(some 4), none, .f (.mv (.t 30))⟩])
   .ret)
   .skip)))
   (.seq (.reg [0, 1, 2, 3, 4, 5, 6, 4, 7, 4, 8, 9, 10, 11] [.run ⟨(some 31), none, .f (.mv (.t 0))⟩,
    .run ⟨(some 32), none, .f (.mv (.t 0))⟩,
    .run ⟨(some 33), none, .f (.nilCheck (.t 32))⟩,
    .run ⟨(some 34), none, .f (.fieldAddr 2 (.t 33))⟩,
    .run ⟨(some 35), none, .f (.load false 1 (.t 34))⟩,
    .run ⟨(some 36), none, .f (.mv (.t 1))⟩,
    .run ⟨(some 37), none, .e (.append 1 1 false (.c (.sl [] 0 1 .nil)) (.t 36))⟩,
    .chk 35 none (.load false 1 (.t 34)),
    .run ⟨(some 38), none, .e (.buildSlice 1 1 0 [(.sl [] 0 1 .nil)] [(0, 1, (.t 37))])⟩,
    .chk 35 none (.load false 1 (.t 34)),
    .run ⟨(some 39), none, .e (.append 1 24 false (.t 35) (.t 38))⟩,
    .run ⟨(some 40), none, .f (.nilCheck (.t 31))⟩,
    .run ⟨(some 41), none, .f (.fieldAddr 2 (.t 40))⟩,
    .run ⟨none, none, .e (.store 1 (.t 41) (.t 39))⟩])
   (.seq (.reg [] [.run ⟨(some 4), none, .f (.mv (.c (.int .i64 0)))⟩])
   .ret)))))))
theorem k_wal_Log_Append : chkFn Tryd.prog n_wal_Log_Append ⟨b_wal_Log_Append, [.tmp 4], 42⟩ = true := by kernel_rfl
/-- (*fascine/wal.Log).At -/
abbrev n_wal_Log_At : Nat := 56
def b_wal_Log_At : Cd := (.seq (.reg [] [.run ⟨(some 4), none, .f (.mv (.c (.sl [] 0 1 .nil)))⟩,
    .run ⟨(some 5), none, .f (.mv (.c (.int .i64 0)))⟩])
   (.seq (.seq (.reg [] [.run ⟨(some 6), none, .f (.mv (.t 1))⟩,
    .run ⟨(some 7), none, .f (.bin .lss (.t 6) (.c (.int .i64 0)))⟩,
    .run ⟨(some 8), none, .f (.mv (.t 7))⟩,
    .run ⟨(some 9), (some (8, false)), .f (.mv (.t 1))⟩,
    .run ⟨(some 10), (some (8, false)), .f (.mv (.t 0))⟩,
    .run ⟨(some 11), (some (8, false)), .e (.call 55 [(.t 10)])⟩,
    .run ⟨(some 12), (some (8, false)), .f (.bin .geq (.t 9) (.t 11))⟩,
    .run ⟨(some 13), none, .f (.pick (.t 8) (.c (.bool true)) (.t 12))⟩])
   (.ite (.t 13)
   (.seq (.reg [] [.run ⟨(some 4), none, .f (.mv (.c (.sl [] 0 1 .nil)))⟩,
    .run ⟨(some 5), none, .f (.mv (.c (.int .i64 8)))⟩])
   .ret)
   .skip))
   (.seq (.reg [] [.run ⟨(some 14), none, .f (.mv (.t 0))⟩,
    .run ⟨(some 15), none, .f (.nilCheck (.t 14))⟩,
    .run ⟨(some 16), none, .f (.fieldAddr 2 (.t 15))⟩,
    .run ⟨(some 17), none, .f (.load false 1 (.t 16))⟩,
    .run ⟨(some 18), none, .f (.mv (.t 1))⟩,
    .run ⟨(some 19), none, .f (.indexAddr 1 (.t 17) (.t 18))⟩,
    .run ⟨(some 20), none, .f (.load false 1 (.t 19))⟩,
    .run ⟨(some 21), none, .e (.append 1 1 false (.c (.sl [] 0 1 .nil)) (.t 20))⟩,
    .run ⟨(some 4), none, .f (.mv (.t 21))⟩,
    .run ⟨(some 5), none, .f (.mv (.c (.int .i64 0)))⟩])
   .ret)))
theorem k_wal_Log_At : chkFn Tryd.prog n_wal_Log_At ⟨b_wal_Log_At, [.tmp 4, .tmp 5], 22⟩ = true := by kernel_rfl
/-- (*fascine/wal.Log).Len -/
abbrev n_wal_Log_Len : Nat := 55
def b_wal_Log_Len : Cd := (.seq (.reg [] [.run ⟨(some 2), none, .f (.mv (.c (.int .i64 0)))⟩])
   (.seq (.seq (.reg [] [.run ⟨(some 3), none, .f (.mv (.t 0))⟩,
    .run ⟨(some 4), none, .f (.eq false .ptr (.t 3) (.c (.ptr none)))⟩])
   (.ite (.t 4)
   (.seq (.reg [] [.run ⟨(some 2), none, .f (.mv (.c (.int .i64 0)))⟩])
   .ret)
   .skip))
   (.seq (.reg [] [.run ⟨(some 5), none, .f (.mv (.t 0))⟩,
    .run ⟨(some 6), none, .f (.nilCheck (.t 5))⟩,
    .run ⟨(some 7), none, .f (.fieldAddr 2 (.t 6))⟩,
    .run ⟨(some 8), none, .f (.load false 1 (.t 7))⟩,
    .run ⟨(some 9), none, .f (.len .sl (.t 8))⟩,
    .run ⟨(some 2), none, .f (.mv (.t 9))⟩])
   .ret)))
theorem k_wal_Log_Len : chkFn Tryd.prog n_wal_Log_Len ⟨b_wal_Log_Len, [.tmp 2], 10⟩ = true := by kernel_rfl
/-- (*fascine/wal.Log).Set -/
abbrev n_wal_Log_Set : Nat := 64
def l_wal_Log_Set_0 : Cd := (.seq (.reg [] [.run ⟨(some 34), none, .f (.bin .lss (.t 33) (.t 32))⟩])
   (.seq (.ite (.t 34)
   .skip
   (.exit 0))
   (.seq (.blk 1 (.seq (.reg [] [.run ⟨(some 35), none, .f (.indexAddr 1 (.t 31) (.t 33))⟩,
    .run ⟨(some 36), none, .f (.load false 1 (.t 35))⟩,
    .run ⟨(some 9), none, .f (.mv (.t 36))⟩])
   (.reg [] [.run ⟨(some 37), none, .f (.mv (.t 7))⟩,
    .run ⟨(some 38), none, .f (.mv (.t 9))⟩,
    .run ⟨(some 39), none, .e (.append 1 1 false (.c (.sl [] 0 1 .nil)) (.t 38))⟩,
    .run ⟨(some 40), none, .e (.buildSlice 1 1 0 [(.sl [] 0 1 .nil)] [(0, 1, (.t 39))])⟩,
    .run ⟨(some 41), none, .e (.append 1 24 false (.t 37) (.t 40))⟩,
    .run ⟨(some 7), none, .f (.mv (.t 41))⟩])))
   (.reg [] [.run ⟨(some 42), none, .f (.bin .add (.t 33) (.c (.int .i64 1)))⟩,
    .run ⟨(some 33), none, .f (.mv (.t 42))⟩]))))
def s_wal_Log_Set_0 : Cd := (.seq (.seq (.reg [] [.run ⟨(some 43), none, .f (.mv (.t 0))⟩,
    .run ⟨(some 44), none, .f (.mv (.t 7))⟩,
    .run ⟨(some 45), none, .e (.call 74 [(.t 43), (.t 44)])⟩,
    .run ⟨(some 10), none, .f (.mv (.t 45))⟩])
   (.seq (.reg [] [.run ⟨(some 46), none, .f (.mv (.t 10))⟩,
    .run ⟨(some 47), none, .f (.bin .neq (.t 46) (.c (.int .i64 0)))⟩])
   (.ite (.t 47)
   (.seq (.reg [] [.run ⟨(some 48), none, .f (.mv (.t 10))⟩,
    .run ⟨(some 6), none, .f (.mv (.t 48))⟩])
   .ret)
   .skip)))
   (.seq (.reg [] [.run ⟨(some 49), none, .f (.mv (.t 0))⟩,
    .run ⟨(some 50), none, .f (.mv (.t 7))⟩,
    .run ⟨(some 51), none, .f (.nilCheck (.t 49))⟩,
    .run ⟨(some 52), none, .f (.fieldAddr 2 (.t 51))⟩,
    .run ⟨none, none, .e (.store 1 (.t 52) (.t 50))⟩])
   (.seq (.reg [] [.run ⟨(some 6), none, .f (.mv (.c (.int .i64 0)))⟩])
   .ret)))
def b_wal_Log_Set : Cd := (.seq (.reg [] [.run ⟨(some 6), none, .f (.mv (.c (.int .i64 0)))⟩])
   (.seq (.seq (.reg [] [.run ⟨(some 11), none, .f (.mv (.t 0))⟩,
    .run ⟨(some 12), none, .f (.eq false .ptr (.t 11) (.c (.ptr none)))⟩])
   (.ite (.t 12)
   (.seq (.reg [] [.run ⟨(some 6), none, .f (.mv (.c (.int .i64 8)))⟩])
   .ret)
   .skip))
   (.seq (.seq (.reg [] [.run ⟨(some 13), none, .f (.mv (.t 1))⟩,
    .run ⟨(some 14), none, .f (.bin .lss (.t 13) (.c (.int .i64 0)))⟩,
    .run ⟨(some 15), none, .f (.mv (.t 14))⟩,
    .run ⟨(some 16), (some (15, false)), .f (.mv (.t 1))⟩,
    .run ⟨(some 17), (some (15, false)), .f (.mv (.t 0))⟩,
    .run ⟨(some 18), (some (15, false)), .f (.nilCheck (.t 17))⟩,
    .run ⟨(some 19), (some (15, false)), .f (.fieldAddr 2 (.t 18))⟩,
    .run ⟨(some 20), (some (15, false)), .f (.load false 1 (.t 19))⟩,
    .run ⟨(some 21), (some (15, false)), .f (.len .sl (.t 20))⟩,
    .run ⟨(some 22), (some (15, false)), .f (.bin .gtr (.t 16) (.t 21))⟩,
    .run ⟨(some 23), none, .f (.pick (.t 15) (.c (.bool true)) (.t 22))⟩])
   (.ite (.t 23)
   (.seq (.reg [] [.run ⟨(some 6), none, .f (.mv (.c (.int .i64 1)))⟩])
   .ret)
   .skip))
   (.seq (.reg [] [.run ⟨(some 24), none, .f (.mv (.t 0))⟩,
    .run ⟨(some 25), none, .f (.nilCheck (.t 24))⟩,
    .run ⟨(some 26), none, .f (.fieldAddr 2 (.t 25))⟩,
    .run ⟨(some 27), none, .f (.load false 1 (.t 26))⟩,
    .run ⟨(some 28), none, .f (.mv (.t 1))⟩,
    .run ⟨(some 29), none, .f (.slice 1 (.t 27) none (some (.t 28)) none)⟩,
    .run ⟨(some 30), none, .e (.append 1 24 false (.c (.sl [] 0 1 .nil)) (.t 29))⟩,
    .run ⟨(some 7), none, .f (.mv (.t 30))⟩])
   (.seq (.seq (.reg [] [.run ⟨(some 31), none, .f (.mv (.t 2))⟩,
    .run ⟨(some 32), none, .f (.len .sl (.t 31))⟩,
    .run ⟨(some 33), none, .f (.mv (.c (.int .i64 0)))⟩])
   (.blk 0 (.loop l_wal_Log_Set_0)))
   s_wal_Log_Set_0)))))
theorem k_wal_Log_Set : chkFn Tryd.prog n_wal_Log_Set ⟨b_wal_Log_Set, [.tmp 6], 53⟩ = true := by kernel_rfl
/-- (*fascine/wal.Log).Sync -/
abbrev n_wal_Log_Sync : Nat := 62
def b_wal_Log_Sync : Cd := (.seq (.reg [] [.run ⟨(some 2), none, .f (.mv (.c (.int .i64 0)))⟩])
   (.seq (.seq (.reg [] [.run ⟨(some 4), none, .f (.mv (.t 0))⟩,
    .run ⟨(some 5), none, .f (.eq false .ptr (.t 4) (.c (.ptr none)))⟩])
   (.ite (.t 5)
   (.seq (.reg [] [.run ⟨(some 2), none, .f (.mv (.c (.int .i64 8)))⟩])
   .ret)
   .skip))
   (.seq (.reg [0, 1, 2, 3, 4, 5, 6, 7, 8, 9] [.run ⟨(some 6), none, .f (.mv (.t 0))⟩,
    .run ⟨(some 7), none, .f (.nilCheck (.t 6))⟩,
    .run ⟨(some 8), none, .f (.fieldAddr 0 (.t 7))⟩,
    .run ⟨(some 9), none, .f (.load false 1 (.t 8))⟩,
    .run ⟨(some 10), none, .f (.mv (.t 0))⟩,
    .run ⟨(some 11), none, .f (.nilCheck (.t 10))⟩,
    .run ⟨(some 12), none, .f (.fieldAddr 1 (.t 11))⟩,
    .run ⟨(some 13), none, .f (.load false 1 (.t 12))⟩,
    .run ⟨(some 14), none, .e (.call 77 [(.t 9), (.t 13)])⟩,
    .run ⟨(some 3), none, .f (.mv (.t 14))⟩])
   (.seq (.seq (.reg [] [.run ⟨(some 15), none, .f (.mv (.t 3))⟩,
    .run ⟨(some 16), none, .f (.bin .eql (.t 15) (.c (.int .i64 8)))⟩,
    .run ⟨(some 17), none, .f (.mv (.t 16))⟩,
    .run ⟨(some 18), (some (17, true)), .f (.mv (.t 0))⟩,
    .run ⟨(some 19), (some (17, true)), .f (.nilCheck (.t 18))⟩,
    .run ⟨(some 20), (some (17, true)), .f (.fieldAddr 2 (.t 19))⟩,
    .run ⟨(some 21), (some (17, true)), .f (.load false 1 (.t 20))⟩,
    .run ⟨(some 22), (some (17, true)), .f (.len .sl (.t 21))⟩,
    .run ⟨(some 23), (some (17, true)), .f (.bin .eql (.t 22) (.c (.int .i64 0)))⟩,
    .run ⟨(some 24), none, .f (.pick (.t 17) (.t 23) (.c (.bool false)))⟩])
   (.ite (.t 24)
   (.seq (.reg [] [.run ⟨(some 2), none, .f (.mv (.c (.int .i64 0)))⟩])
   .ret)
   .skip))
   (.seq (.reg [] [.run ⟨(some 25), none, .f (.mv (.t 3))⟩,
    .run ⟨(some 2), none, .f (.mv (.t 25))⟩])
   .ret)))))
theorem k_wal_Log_Sync : chkFn Tryd.prog n_wal_Log_Sync ⟨b_wal_Log_Sync, [.tmp 2], 26⟩ = true := by kernel_rfl
/-- (*fascine/wal.Log).write -/
abbrev n_wal_Log_write : Nat := 74
def r_wal_Log_write_0 : Cd := (.seq (.blk 1 (.seq (.reg [] [.run ⟨(some 15), none, .f (.indexAddr 1 (.t 11) (.t 13))⟩,
    .run ⟨(some 16), none, .f (.load false 1 (.t 15))⟩,
    .run ⟨(some 7), none, .f (.mv (.t 16))⟩])
   (.seq (.reg [] [.run ⟨(some 18), none, .f (.mv (.t 7))⟩,
    .run ⟨(some 19), none, .e (.call 75 [(.t 18)])⟩,
    .run ⟨(some 17), none, .f (.mv (.t 19))⟩,
    .run ⟨(some 20), none, .f (.extract (.t 17) 0)⟩,
    .run ⟨(some 21), none, .f (.extract (.t 17) 1)⟩,
    .run ⟨(some 8), none, .f (.mv (.t 20))⟩,
    .run ⟨(some 9), none, .f (.mv (.t 21))⟩])
   (.seq (.seq (.reg [] [.run ⟨(some 22), none, .f (.mv (.t 9))⟩,
    .run ⟨(some 23), none, .f (.bin .neq (.t 22) (.c (.int .i64 0)))⟩])
   (.ite (.t 23)
   (.seq (.reg [] [.run ⟨(some 24), none, .f (.mv (.t 9))⟩,
    .run ⟨(some 4), none, .f (.mv (.t 24))⟩])
   .ret)
   .skip))
   (.reg [] [.run ⟨(some 25), none, .f (.mv (.t 5))⟩,
    .run ⟨(some 26), none, .f (.mv (.t 8))⟩,
    .run ⟨(some 27), none, .e (.append 1 1 false (.t 25) (.t 26))⟩,
    .run ⟨(some 5), none, .f (.mv (.t 27))⟩])))))
   (.reg [] [.run ⟨(some 28), none, .f (.bin .add (.t 13) (.c (.int .i64 1)))⟩,
    .run ⟨(some 13), none, .f (.mv (.t 28))⟩]))
def l_wal_Log_write_0 : Cd := (.seq (.reg [] [.run ⟨(some 14), none, .f (.bin .lss (.t 13) (.t 12))⟩])
   (.seq (.ite (.t 14)
   .skip
   (.exit 0))
   r_wal_Log_write_0))
def r_wal_Log_write_1 : Cd := (.seq (.seq (.reg [] [.run ⟨(some 68), none, .f (.mv (.t 10))⟩,
    .run ⟨(some 69), none, .f (.bin .neq (.t 68) (.c (.int .i64 0)))⟩,
    .run ⟨(some 70), none, .f (.mv (.t 69))⟩,
    .run ⟨(some 71), (some (70, true)), .f (.mv (.t 10))⟩,
    .run ⟨(some 72), (some (70, true)), .f (.bin .neq (.t 71) (.c (.int .i64 10)))⟩,
    .run ⟨(some 73), none, .f (.pick (.t 70) (.t 72) (.c (.bool false)))⟩])
   (.ite (.t 73)
   (.reg [0, 1, 2, 3, 4, 5, 6, 7, 8, 9] [.run ⟨(some 74), none, .f (.mv (.t 0))⟩,
    .run ⟨(some 75), none, .f (.nilCheck (.t 74))⟩,
    .run ⟨(some 76), none, .f (.fieldAddr 0 (.t 75))⟩,
    .run ⟨(some 77), none, .f (.load false 1 (.t 76))⟩,
    .run ⟨(some 78), none, .f (.mv (.t 0))⟩,
    .run ⟨(some 79), none, .f (.nilCheck (.t 78))⟩,
    .run ⟨(some 80), none, .f (.fieldAddr 1 (.t 79))⟩,
    .run ⟨(some 81), none, .f (.load false 1 (.t 80))⟩,
    .run ⟨(some 82), none, .f (.bin .add (.t 81) (.c (.str (mkS [46, 110, 101, 119]))))⟩,
    .run ⟨(some 83), none, .e (.call 71 [(.t 77), (.t 82)])⟩])
   .skip))
   (.seq (.reg [] [.run ⟨(some 84), none, .f (.mv (.t 10))⟩,
    .run ⟨(some 4), none, .f (.mv (.t 84))⟩])
   .ret))
def r_wal_Log_write_2 : Cd := (.seq (.seq (.reg [] [.run ⟨(some 52), none, .f (.mv (.t 10))⟩,
    .run ⟨(some 53), none, .f (.bin .eql (.t 52) (.c (.int .i64 0)))⟩])
   (.ite (.t 53)
   (.reg [0, 1, 2, 3, 4, 5, 6, 7, 8, 9, 10, 11, 12, 13, 14] [.run ⟨(some 54), none, .f (.mv (.t 0))⟩,
    .run ⟨(some 55), none, .f (.nilCheck (.t 54))⟩,
    .run ⟨(some 56), none, .f (.fieldAddr 0 (.t 55))⟩,
    .run ⟨(some 57), none, .f (.load false 1 (.t 56))⟩,
    .run ⟨(some 58), none, .f (.mv (.t 0))⟩,
    .run ⟨(some 59), none, .f (.nilCheck (.t 58))⟩,
    .run ⟨(some 60), none, .f (.fieldAddr 1 (.t 59))⟩,
    .run ⟨(some 61), none, .f (.load false 1 (.t 60))⟩,
    .run ⟨(some 62), none, .f (.bin .add (.t 61) (.c (.str (mkS [46, 110, 101, 119]))))⟩,
    .run ⟨(some 63), none, .f (.mv (.t 0))⟩,
    .run ⟨(some 64), none, .f (.nilCheck (.t 63))⟩,
    .run ⟨(some 65), none, .f (.fieldAddr 1 (.t 64))⟩,
    .run ⟨(some 66), none, .f (.load false 1 (.t 65))⟩,
    .run ⟨(some 67), none, .e (.call 96 [(.t 57), (.t 62), (.t 66)])⟩,
    .run ⟨(some 10), none, .f (.mv (.t 67))⟩])
   .skip))
   r_wal_Log_write_1)
def s_wal_Log_write_0 : Cd := (.seq (.reg [0, 1, 2, 3, 4, 5, 6, 7, 8, 9, 10, 11] [.run ⟨(some 29), none, .f (.mv (.t 0))⟩,
    .run ⟨(some 30), none, .f (.nilCheck (.t 29))⟩,
    .run ⟨(some 31), none, .f (.fieldAddr 0 (.t 30))⟩,
    .run ⟨(some 32), none, .f (.load false 1 (.t 31))⟩,
    .run ⟨(some 33), none, .f (.mv (.t 0))⟩,
    .run ⟨(some 34), none, .f (.nilCheck (.t 33))⟩,
    .run ⟨(some 35), none, .f (.fieldAddr 1 (.t 34))⟩,
    .run ⟨(some 36), none, .f (.load false 1 (.t 35))⟩,
    .run ⟨(some 37), none, .f (.bin .add (.t 36) (.c (.str (mkS [46, 110, 101, 119]))))⟩,
    .run ⟨(some 38), none, .f (.mv (.t 5))⟩,
    .run ⟨(some 39), none, .e (.call 95 [(.t 32), (.t 37), (.t 38)])⟩,
    .run ⟨(some 10), none, .f (.mv (.t 39))⟩])
   (.seq (.seq (.reg [] [.run ⟨(some 40), none, .f (.mv (.t 10))⟩,
    .run ⟨(some 41), none, .f (.bin .eql (.t 40) (.c (.int .i64 0)))⟩])
   (.ite (.t 41)
   (.reg [0, 1, 2, 3, 4, 5, 6, 7, 8, 9, 10] [.run ⟨(some 42), none, .f (.mv (.t 0))⟩,
    .run ⟨(some 43), none, .f (.nilCheck (.t 42))⟩,
    .run ⟨(some 44), none, .f (.fieldAddr 0 (.t 43))⟩,
    .run ⟨(some 45), none, .f (.load false 1 (.t 44))⟩,
    .run ⟨(some 46), none, .f (.mv (.t 0))⟩,
    .run ⟨(some 47), none, .f (.nilCheck (.t 46))⟩,
    .run ⟨(some 48), none, .f (.fieldAddr 1 (.t 47))⟩,
    .run ⟨(some 49), none, .f (.load false 1 (.t 48))⟩,
    .run ⟨(some 50), none, .f (.bin .add (.t 49) (.c (.str (mkS [46, 110, 101, 119]))))⟩,
    .run ⟨(some 51), none, .e (.call 77 [(.t 45), (.t 50)])⟩,
    .run ⟨(some 10), none, .f (.mv (.t 51))⟩])
   .skip))
   r_wal_Log_write_2))
def b_wal_Log_write : Cd := (.seq (.reg [] [.run ⟨(some 4), none, .f (.mv (.c (.int .i64 0)))⟩])
   (.seq (.reg [] [.run ⟨(some 5), none, .f (.mv (.c (.sl [] 0 1 .nil)))⟩])
   (.seq (.seq (.reg [] [.run ⟨(some 11), none, .f (.mv (.t 1))⟩,
    .run ⟨(some 12), none, .f (.len .sl (.t 11))⟩,
    .run ⟨(some 13), none, .f (.mv (.c (.int .i64 0)))⟩])
   (.blk 0 (.loop l_wal_Log_write_0)))
   s_wal_Log_write_0)))
theorem k_wal_Log_write : chkFn Tryd.prog n_wal_Log_write ⟨b_wal_Log_write, [.tmp 4], 85⟩ = true := by kernel_rfl
/-- fascine/wal.Open -/
abbrev n_wal_Open : Nat := 54
def r_wal_Open_0 : Cd := (.seq (.reg [] [.run ⟨(some 48), none, .f (.mv (.t 7))⟩,
    .run ⟨(some 49), none, .e (.call 73 [(.t 48)])⟩,
    .run ⟨(some 47), none, .f (.mv (.t 49))⟩,
    .run ⟨(some 50), none, .f (.extract (.t 47) 0)⟩,
    .run ⟨(some 51), none, .f (.extract (.t 47) 1)⟩,
    .run ⟨(some 9), none, .f (.mv (.t 50))⟩,
    .run ⟨(some 10), none, .f (.mv (.t 51))⟩])
   (.seq (.reg [] [.run ⟨(some 52), none, .f (.mv (.t 0))⟩,
    .run ⟨(some 53), none, .f (.mv (.t 1))⟩,
    .run ⟨(some 54), none, .f (.mv (.t 9))⟩,
    .run ⟨(some 55), none, .f (.build [(.ptr none), (.str (mkS [])), (.sl [] 0 1 .nil)] [(0, 1, (.t 52)), (1, 1, (.t 53)), (2, 1, (.t 54))])⟩,
    .run ⟨(some 56), none, .e (.box (.t 55))⟩,
    .run ⟨(some 11), none, .f (.mv (.t 56))⟩])
   (.seq (.seq (.reg [] [.run ⟨(some 57), none, .f (.mv (.t 10))⟩,
    .run ⟨(some 58), none, .f (.mv (.t 7))⟩,
    .run ⟨(some 59), none, .f (.len .sl (.t 58))⟩,
    .run ⟨(some 60), none, .f (.bin .lss (.t 57) (.t 59))⟩])
   (.ite (.t 60)
   (.seq (.reg [] [.run ⟨(some 61), none, .f (.mv (.t 11))⟩,
    .run ⟨(some 62), none, .f (.mv (.t 9))⟩,
    .run ⟨(some 63), none, .e (.call 74 [(.t 61), (.t 62)])⟩,
    .run ⟨(some 12), none, .f (.mv (.t 63))⟩])
   (.seq (.reg [] [.run ⟨(some 64), none, .f (.mv (.t 12))⟩,
    .run ⟨(some 65), none, .f (.bin .neq (.t 64) (.c (.int .i64 0)))⟩])
   (.ite (.t 65)
   (.seq (.reg [] [.run ⟨(some 66), none, .f (.mv (.t 12))⟩,
    .run ⟨(some 4), none, .f (.mv (.c (.ptr none)))⟩,
    .run ⟨(some 5), none, .f (.mv (.t 66))⟩])
   .ret)
   .skip)))
   .skip))
   (.seq (.reg [] [.run ⟨(some 67), none, .f (.mv (.t 11))⟩,
    .run ⟨(some 4), none, .f (.mv (.t 67))⟩,
    .run ⟨(some 5), none, .f (.mv (.c (.int .i64 0)))⟩])
   .ret))))
def r_wal_Open_1 : Cd := (.seq (.reg [] [.run ⟨(some 35), none, .f (.mv (.t 0))⟩,
    .run ⟨(some 36), none, .f (.mv (.t 1))⟩,
    .run ⟨(some 37), none, .e (.call 72 [(.t 35), (.t 36)])⟩,
    .run ⟨(some 34), none, .f (.mv (.t 37))⟩,
    .run ⟨(some 38), none, .f (.extract (.t 34) 0)⟩,
    .run ⟨(some 39), none, .f (.extract (.t 34) 1)⟩,
    .run ⟨(some 7), none, .f (.mv (.t 38))⟩,
    .run ⟨(some 8), none, .f (.mv (.t 39))⟩])
   (.seq (.seq (.reg [] [.run ⟨(some 40), none, .f (.mv (.t 8))⟩,
    .run ⟨(some 41), none, .f (.bin .neq (.t 40) (.c (.int .i64 0)))⟩,
    .run ⟨(some 42), none, .f (.mv (.t 41))⟩,
    .run ⟨(some 43), (some (42, true)), .f (.mv (.t 8))⟩,
    .run ⟨(some 44), (some (42, true)), .f (.bin .neq (.t 43) (.c (.int .i64 8)))⟩,
    .run ⟨(some 45), none, .f (.pick (.t 42) (.t 44) (.c (.bool false)))⟩])
   (.ite (.t 45)
   (.seq (.reg [] [.run ⟨(some 46), none, .f (.mv (.t 8))⟩,
    .run ⟨(some 4), none, .f (.mv (.c (.ptr none)))⟩,
    .run ⟨(some 5), none, .f (.mv (.t 46))⟩])
   .ret)
   .skip))
   r_wal_Open_0))
def r_wal_Open_2 : Cd := (.seq (.seq (.reg [] [.run ⟨(some 23), none, .f (.mv (.t 0))⟩,
    .run ⟨(some 24), none, .f (.mv (.t 1))⟩,
    .run ⟨(some 25), none, .f (.bin .add (.t 24) (.c (.str (mkS [46, 110, 101, 119]))))⟩,
    .run ⟨(some 26), none, .e (.call 71 [(.t 23), (.t 25)])⟩,
    .run ⟨(some 6), none, .f (.mv (.t 26))⟩])
   (.seq (.reg [] [.run ⟨(some 27), none, .f (.mv (.t 6))⟩,
    .run ⟨(some 28), none, .f (.bin .neq (.t 27) (.c (.int .i64 0)))⟩,
    .run ⟨(some 29), none, .f (.mv (.t 28))⟩,
    .run ⟨(some 30), (some (29, true)), .f (.mv (.t 6))⟩,
    .run ⟨(some 31), (some (29, true)), .f (.bin .neq (.t 30) (.c (.int .i64 8)))⟩,
    .run ⟨(some 32), none, .f (.pick (.t 29) (.t 31) (.c (.bool false)))⟩])
   (.ite (.t 32)
   (.seq (.reg [] [.run ⟨(some 33), none, .f (.mv (.t 6))⟩,
    .run ⟨(some 4), none, .f (.mv (.c (.ptr none)))⟩,
    .run ⟨(some 5), none, .f (.mv (.t 33))⟩])
   .ret)
   .skip)))
   r_wal_Open_1)
def b_wal_Open : Cd := (.seq (.reg [] [.run ⟨(some 4), none, .f (.mv (.c (.ptr none)))⟩,
    .run ⟨(some 5), none, .f (.mv (.c (.int .i64 0)))⟩])
   (.seq (.seq (.reg [] [.run ⟨(some 13), none, .f (.mv (.t 0))⟩,
    .run ⟨(some 14), none, .f (.eq false .ptr (.t 13) (.c (.ptr none)))⟩])
   (.ite (.t 14)
   (.seq (.reg [] [.run ⟨(some 4), none, .f (.mv (.c (.ptr none)))⟩,
    .run ⟨(some 5), none, .f (.mv (.c (.int .i64 8)))⟩])
   .ret)
   .skip))
   (.seq (.seq (.reg [] [.run ⟨(some 15), none, .f (.mv (.t 1))⟩,
    .run ⟨(some 16), none, .e (.call 70 [(.t 15)])⟩,
    .run ⟨(some 17), none, .f (.un .not (.t 16))⟩,
    .run ⟨(some 18), none, .f (.mv (.t 17))⟩,
    .run ⟨(some 19), (some (18, false)), .f (.mv (.t 1))⟩,
    .run ⟨(some 20), (some (18, false)), .f (.len .str (.t 19))⟩,
    .run ⟨(some 21), (some (18, false)), .f (.bin .gtr (.t 20) (.c (.int .i64 28)))⟩,
    .run ⟨(some 22), none, .f (.pick (.t 18) (.c (.bool true)) (.t 21))⟩])
   (.ite (.t 22)
   (.seq (.reg [] [.run ⟨(some 4), none, .f (.mv (.c (.ptr none)))⟩,
    .run ⟨(some 5), none, .f (.mv (.c (.int .i64 1)))⟩])
   .ret)
   .skip))
   r_wal_Open_2)))
theorem k_wal_Open : chkFn Tryd.prog n_wal_Open ⟨b_wal_Open, [.tmp 4, .tmp 5], 68⟩ = true := by kernel_rfl
/-- fascine/wal.Scan -/
abbrev n_wal_Scan : Nat := 73
def l_wal_Scan_0 : Cd := (.blk 1 (.seq (.reg [] [.run ⟨(some 10), none, .f (.mv (.t 0))⟩,
    .run ⟨(some 11), none, .f (.mv (.t 5))⟩,
    .run ⟨(some 12), none, .e (.call 94 [(.t 10), (.t 11)])⟩,
    .run ⟨(some 9), none, .f (.mv (.t 12))⟩,
    .run ⟨(some 13), none, .f (.extract (.t 9) 0)⟩,
    .run ⟨(some 14), none, .f (.extract (.t 9) 1)⟩,
    .run ⟨(some 15), none, .f (.extract (.t 9) 2)⟩,
    .run ⟨(some 6), none, .f (.mv (.t 13))⟩,
    .run ⟨(some 7), none, .f (.mv (.t 14))⟩,
    .run ⟨(some 8), none, .f (.mv (.t 15))⟩])
   (.seq (.seq (.reg [] [.run ⟨(some 16), none, .f (.mv (.t 8))⟩,
    .run ⟨(some 17), none, .f (.bin .neq (.t 16) (.c (.int .i64 0)))⟩])
   (.ite (.t 17)
   (.seq (.reg [] [.run ⟨(some 18), none, .f (.mv (.t 4))⟩,
    .run ⟨(some 19), none, .f (.mv (.t 5))⟩,
    .run ⟨(some 2), none, .f (.mv (.t 18))⟩,
    .run ⟨(some 3), none, .f (.mv (.t 19))⟩])
   .ret)
   .skip))
   (.reg [] [.run ⟨(some 20), none, .f (.mv (.t 4))⟩,
    .run ⟨(some 21), none, .f (.mv (.t 6))⟩,
    .run ⟨(some 22), none, .e (.buildSlice 1 1 0 [(.sl [] 0 1 .nil)] [(0, 1, (.t 21))])⟩,
    .run ⟨(some 23), none, .e (.append 1 24 false (.t 20) (.t 22))⟩,
    .run ⟨(some 24), none, .f (.mv (.t 7))⟩,
    .run ⟨(some 4), none, .f (.mv (.t 23))⟩,
    .run ⟨(some 5), none, .f (.mv (.t 24))⟩]))))
def b_wal_Scan : Cd := (.seq (.reg [] [.run ⟨(some 2), none, .f (.mv (.c (.sl [] 0 1 .nil)))⟩,
    .run ⟨(some 3), none, .f (.mv (.c (.int .i64 0)))⟩])
   (.seq (.reg [] [.run ⟨(some 4), none, .f (.mv (.c (.sl [] 0 1 .nil)))⟩])
   (.seq (.reg [] [.run ⟨(some 5), none, .f (.mv (.c (.int .i64 0)))⟩])
   (.blk 0 (.loop l_wal_Scan_0)))))
theorem k_wal_Scan : chkFn Tryd.prog n_wal_Scan ⟨b_wal_Scan, [.tmp 2, .tmp 3], 25⟩ = true := by kernel_rfl
end Go.VM
