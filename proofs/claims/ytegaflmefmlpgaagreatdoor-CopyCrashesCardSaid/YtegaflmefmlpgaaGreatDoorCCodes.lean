/-
  The codes of functions, as the value machine has them, and that they stand for the model's (printed by a program, wip/gen).
-/
import Derived.Test.YtegaflmefmlpgaaGreatDoorDCodes
import Derived.Test.YtegaflmefmlpgaaGreatDoorProg
import Derived.KernelRfl
set_option linter.unusedVariables false
set_option maxRecDepth 100000
namespace Go.VM
open Go Go.Proofs

/-- (*fascine/copy.Copy).Adopt -/
abbrev n_copy_Copy_Adopt : Nat := 26
def l_copy_Copy_Adopt_0 : Cd := (.seq (.reg [] [fi 37 (.bin .lss (.t 36) (.t 35))])
   (.seq (.ite (.t 37)
   .skip
   (.exit 0))
   (.seq (.blk 1 (.seq (.reg [] [fi 38 (.indexAddr 4 (.t 34) (.t 36)),
    fi 39 (.load true 4 (.t 38)),
    ei 10 (.alloc [(.int .u64 0), (.str (mkS [])), (.int .i64 0), (.str (mkS []))]),
    st (.store 4 (.t 10) (.t 39))])
   (.seq (.reg [] [fi 41 (.load true 4 (.t 10)),
    ei 42 (.call 31 [(.t 41)]),
    fi 40 (.mv (.t 42)),
    fi 43 (.extract (.t 40) 0),
    fi 44 (.extract (.t 40) 1),
    fi 11 (.mv (.t 43)),
    fi 12 (.mv (.t 44))])
   (.seq (.seq (.reg [] [fi 45 (.mv (.t 12)),
    fi 46 (.bin .neq (.t 45) (.c (.int .i64 0)))])
   (.ite (.t 46)
   (.seq (.reg [] [fi 47 (.mv (.t 12)),
    fi 6 (.mv (.t 47))])
   .ret)
   .skip))
   (.reg [] [fi 48 (.mv (.t 8)),
    ei 49 (.buildSlice 1 1 0 [(.int .u8 0)] [(0, 1, (.c (.int .u8 79)))]),
    fi 50 (.mv (.t 11)),
    ei 51 (.append 1 1 false (.t 49) (.t 50)),
    ei 52 (.buildSlice 1 1 0 [(.sl [] 0 1 .nil)] [(0, 1, (.t 51))]),
    ei 53 (.append 1 24 false (.t 48) (.t 52)),
    fi 8 (.mv (.t 53))])))))
   (.reg [] [fi 54 (.bin .add (.t 36) (.c (.int .i64 1))),
    fi 36 (.mv (.t 54))]))))
def s_copy_Copy_Adopt_0 : Cd := (.seq (.seq (.reg [] [fi 55 (.mv (.t 1)),
    fi 56 (.mv (.t 0)),
    fi 57 (.nilCheck (.t 56)),
    fi 58 (.fieldAddr 2 (.t 57)),
    fi 59 (.fieldAddr 2 (.t 58)),
    fi 60 (.load false 1 (.t 59)),
    fi 61 (.bin .eql (.t 55) (.t 60)),
    fi 62 (.mv (.t 61)),
    .run ⟨(some 63), (some (62, true)), .f (.mv (.t 2))⟩,
    .run ⟨(some 64), (some (62, true)), .f (.len .sl (.t 63))⟩,
    .run ⟨(some 65), (some (62, true)), .f (.mv (.t 0))⟩,
    .run ⟨(some 66), (some (62, true)), .f (.nilCheck (.t 65))⟩,
    .run ⟨(some 67), (some (62, true)), .f (.fieldAddr 1 (.t 66))⟩,
    .run ⟨(some 68), (some (62, true)), .f (.load false 1 (.t 67))⟩,
    .run ⟨(some 69), (some (62, true)), .f (.len .sl (.t 68))⟩,
    .run ⟨(some 70), (some (62, true)), .f (.bin .leq (.t 64) (.t 69))⟩,
    fi 71 (.pick (.t 62) (.t 70) (.c (.bool false)))])
   (.ite (.t 71)
   (.seq (.reg [] [fi 6 (.mv (.c (.int .i64 0)))])
   .ret)
   .skip))
   (.seq (.seq (.reg [] [fi 72 (.mv (.t 0)),
    fi 73 (.nilCheck (.t 72)),
    fi 74 (.fieldAddr 0 (.t 73)),
    fi 75 (.load false 1 (.t 74)),
    fi 76 (.mv (.t 8)),
    ei 77 (.call 46 [(.t 75), (.c (.int .i64 0)), (.t 76)]),
    fi 13 (.mv (.t 77))])
   (.seq (.reg [] [fi 78 (.mv (.t 13)),
    fi 79 (.bin .neq (.t 78) (.c (.int .i64 0)))])
   (.ite (.t 79)
   (.seq (.reg [] [fi 80 (.mv (.t 13)),
    fi 6 (.mv (.t 80))])
   .ret)
   .skip)))
   (.seq (.reg [0, 1, 2, 4, 3, 4, 5, 6, 7, 4, 8, 9, 10] [fi 81 (.mv (.t 0)),
    fi 82 (.mv (.t 0)),
    fi 83 (.mv (.t 2)),
    fi 85 (.load true 3 (.t 7)),
    ei 84 (.append 4 48 false (.c (.sl [] 0 4 .nil)) (.t 83)),
    .chk 85 none (.load true 3 (.t 7)),
    fi 86 (.nilCheck (.t 81)),
    fi 87 (.fieldAddr 1 (.t 86)),
    st (.store 1 (.t 87) (.t 84)),
    .chk 85 none (.load true 3 (.t 7)),
    fi 88 (.nilCheck (.t 82)),
    fi 89 (.fieldAddr 2 (.t 88)),
    st (.store 3 (.t 89) (.t 85))])
   (.seq (.reg [] [fi 6 (.mv (.c (.int .i64 0)))])
   .ret))))
def b_copy_Copy_Adopt : Cd := (.seq (.reg [] [fi 6 (.mv (.c (.int .i64 0)))])
   (.seq (.seq (.reg [] [fi 14 (.mv (.t 0)),
    fi 15 (.eq false .ptr (.t 14) (.c (.ptr none)))])
   (.ite (.t 15)
   (.seq (.reg [] [fi 6 (.mv (.c (.int .i64 8)))])
   .ret)
   .skip))
   (.seq (.seq (.reg [] [fi 16 (.mv (.t 1)),
    fi 17 (.mv (.t 0)),
    fi 18 (.nilCheck (.t 17)),
    fi 19 (.fieldAddr 2 (.t 18)),
    fi 20 (.fieldAddr 0 (.t 19)),
    fi 21 (.load false 1 (.t 20)),
    fi 22 (.bin .lss (.t 16) (.t 21))])
   (.ite (.t 22)
   (.seq (.reg [] [fi 6 (.mv (.c (.int .i64 12)))])
   .ret)
   .skip))
   (.seq (.reg [] [fi 23 (.mv (.t 1)),
    fi 24 (.mv (.t 0)),
    fi 25 (.nilCheck (.t 24)),
    fi 26 (.fieldAddr 2 (.t 25)),
    fi 27 (.fieldAddr 1 (.t 26)),
    fi 28 (.load false 1 (.t 27)),
    fi 29 (.mv (.t 1)),
    fi 30 (.build [(.int .u64 0), (.int .u64 0), (.int .u64 0)] [(0, 1, (.t 23)), (1, 1, (.t 28)), (2, 1, (.t 29))]),
    ei 7 (.alloc [(.int .u64 0), (.int .u64 0), (.int .u64 0)]),
    st (.store 3 (.t 7) (.t 30))])
   (.seq (.reg [] [fi 31 (.load true 3 (.t 7)),
    ei 32 (.call 45 [(.t 31)]),
    ei 33 (.buildSlice 1 1 0 [(.sl [] 0 1 .nil)] [(0, 1, (.t 32))]),
    fi 8 (.mv (.t 33))])
   (.seq (.seq (.reg [] [fi 34 (.mv (.t 2)),
    fi 35 (.len .sl (.t 34)),
    fi 36 (.mv (.c (.int .i64 0)))])
   (.blk 0 (.loop l_copy_Copy_Adopt_0)))
   s_copy_Copy_Adopt_0))))))
theorem k_copy_Copy_Adopt : chkFn Tryz.prog n_copy_Copy_Adopt ⟨b_copy_Copy_Adopt, [.tmp 6], 90⟩ = true := by kernel_rfl
/-- (*fascine/copy.Copy).Append -/
abbrev n_copy_Copy_Append : Nat := 13
def b_copy_Copy_Append : Cd := (.seq (.reg [] [ei 3 (.box (.t 1)),
    fi 4 (.mv (.c (.int .i64 0)))])
   (.seq (.seq (.reg [] [fi 7 (.mv (.t 0)),
    fi 8 (.eq false .ptr (.t 7) (.c (.ptr none)))])
   (.ite (.t 8)
   (.seq (.reg [] [fi 4 (.mv (.c (.int .i64 8)))])
   .ret)
   .skip))
   (.seq (.reg [] [fi 10 (.load true 4 (.t 3)),
    ei 11 (.call 31 [(.t 10)]),
    fi 9 (.mv (.t 11)),
    fi 12 (.extract (.t 9) 0),
    fi 13 (.extract (.t 9) 1),
    fi 5 (.mv (.t 12)),
    fi 6 (.mv (.t 13))])
   (.seq (.seq (.reg [] [fi 14 (.mv (.t 6)),
    fi 15 (.bin .neq (.t 14) (.c (.int .i64 0)))])
   (.ite (.t 15)
   (.seq (.reg [] [fi 16 (.mv (.t 6)),
    fi 4 (.mv (.t 16))])
   .ret)
   .skip))
   (.seq (.seq (.reg [0, 1, 2, 3, 4, 5, 6, 7, 8, 9, 10, 11, 12, 13, 14, 15, 16, 17] [fi 17 (.fieldAddr 0 (.t 3)),
    fi 18 (.load false 1 (.t 17)),
    fi 19 (.mv (.t 0)),
    fi 20 (.nilCheck (.t 19)),
    fi 21 (.fieldAddr 2 (.t 20)),
    fi 22 (.fieldAddr 0 (.t 21)),
    fi 23 (.load false 1 (.t 22)),
    fi 24 (.bin .neq (.t 18) (.t 23)),
    fi 25 (.mv (.t 24)),
    .run ⟨(some 26), (some (25, false)), .f (.fieldAddr 0 (.t 3))⟩,
    .run ⟨(some 27), (some (25, false)), .f (.load false 1 (.t 26))⟩,
    .run ⟨(some 28), (some (25, false)), .f (.mv (.t 0))⟩,
    .run ⟨(some 29), (some (25, false)), .f (.nilCheck (.t 28))⟩,
    .run ⟨(some 30), (some (25, false)), .f (.fieldAddr 2 (.t 29))⟩,
    .run ⟨(some 31), (some (25, false)), .f (.fieldAddr 2 (.t 30))⟩,
    .run ⟨(some 32), (some (25, false)), .f (.load false 1 (.t 31))⟩,
    .run ⟨(some 33), (some (25, false)), .f (.bin .neq (.t 27) (.t 32))⟩,
    fi 34 (.pick (.t 25) (.c (.bool true)) (.t 33))])
   (.ite (.t 34)
   (.seq (.reg [] [fi 4 (.mv (.c (.int .i64 12)))])
   .ret)
   .skip))
   (.seq (.reg [0, 1, 2, 3, 5, 4, 3, 6, 3, 7, 8] [fi 35 (.mv (.t 0)),
    fi 36 (.nilCheck (.t 35)),
    fi 37 (.fieldAddr 0 (.t 36)),
    fi 38 (.load false 1 (.t 37)),
    fi 40 (.mv (.t 5)),
    ei 39 (.buildSlice 1 1 0 [(.int .u8 0)] [(0, 1, (.c (.int .u8 79)))]),
    .chk 38 none (.load false 1 (.t 37)),
    ei 41 (.append 1 1 false (.t 39) (.t 40)),
    .chk 38 none (.load false 1 (.t 37)),
    ei 42 (.call 32 [(.t 38), (.t 41)]),
    fi 6 (.mv (.t 42))])
   (.seq (.seq (.reg [] [fi 43 (.mv (.t 6)),
    fi 44 (.bin .eql (.t 43) (.c (.int .i64 0)))])
   (.ite (.t 44)
   (.reg [] [fi 45 (.mv (.t 0)),
    fi 46 (.nilCheck (.t 45)),
    fi 47 (.fieldAddr 0 (.t 46)),
    fi 48 (.load false 1 (.t 47)),
    ei 49 (.call 33 [(.t 48)]),
    fi 6 (.mv (.t 49))])
   .skip))
   (.seq (.seq (.reg [] [fi 50 (.mv (.t 6)),
    fi 51 (.bin .eql (.t 50) (.c (.int .i64 0)))])
   (.ite (.t 51)
   (.reg [0, 1, 2, 3, 4, 5, 6, 4, 7, 8, 9, 10] [fi 52 (.mv (.t 0)),
    fi 53 (.mv (.t 0)),
    fi 54 (.nilCheck (.t 53)),
    fi 55 (.fieldAddr 1 (.t 54)),
    fi 56 (.load false 1 (.t 55)),
    fi 57 (.load true 4 (.t 3)),
    ei 58 (.buildSlice 1 4 0 [(.int .u64 0), (.str (mkS [])), (.int .i64 0), (.str (mkS []))] [(0, 4, (.t 57))]),
    .chk 56 none (.load false 1 (.t 55)),
    ei 59 (.append 4 48 false (.t 56) (.t 58)),
    fi 60 (.nilCheck (.t 52)),
    fi 61 (.fieldAddr 1 (.t 60)),
    st (.store 1 (.t 61) (.t 59))])
   .skip))
   (.seq (.reg [] [fi 62 (.mv (.t 6)),
    fi 4 (.mv (.t 62))])
   .ret)))))))))
theorem k_copy_Copy_Append : chkFn Tryz.prog n_copy_Copy_Append ⟨b_copy_Copy_Append, [.tmp 4], 63⟩ = true := by kernel_rfl
/-- (*fascine/copy.Copy).Hear -/
abbrev n_copy_Copy_Hear : Nat := 22
def s_copy_Copy_Hear_0 : Cd := (.seq (.reg [] [fi 25 (.mv (.t 0)),
    fi 26 (.nilCheck (.t 25)),
    fi 27 (.fieldAddr 2 (.t 26)),
    fi 28 (.load true 3 (.t 27)),
    ei 5 (.alloc [(.int .u64 0), (.int .u64 0), (.int .u64 0)]),
    st (.store 3 (.t 5) (.t 28))])
   (.seq (.reg [] [fi 29 (.mv (.t 1)),
    fi 30 (.fieldAddr 0 (.t 5)),
    st (.store 1 (.t 30) (.t 29))])
   (.seq (.reg [] [fi 31 (.mv (.t 0)),
    fi 32 (.load true 3 (.t 5)),
    ei 33 (.call 30 [(.t 31), (.t 32)]),
    fi 4 (.mv (.t 33))])
   .ret)))
def b_copy_Copy_Hear : Cd := (.seq (.reg [] [fi 4 (.mv (.c (.int .i64 0)))])
   (.seq (.blk 0 (.seq (.reg [] [fi 7 (.mv (.t 0)),
    fi 8 (.eq false .ptr (.t 7) (.c (.ptr none))),
    fi 6 (.mv (.t 8))])
   (.ite (.t 6)
   (.seq (.reg [] [fi 4 (.mv (.c (.int .i64 8)))])
   .ret)
   (.seq (.reg [] [fi 10 (.mv (.t 1)),
    fi 11 (.mv (.t 0)),
    fi 12 (.nilCheck (.t 11)),
    fi 13 (.fieldAddr 2 (.t 12)),
    fi 14 (.fieldAddr 0 (.t 13)),
    fi 15 (.load false 1 (.t 14)),
    fi 16 (.bin .lss (.t 10) (.t 15)),
    fi 9 (.mv (.t 16))])
   (.ite (.t 9)
   (.seq (.reg [] [fi 4 (.mv (.c (.int .i64 12)))])
   .ret)
   (.seq (.reg [] [fi 18 (.mv (.t 1)),
    fi 19 (.mv (.t 0)),
    fi 20 (.nilCheck (.t 19)),
    fi 21 (.fieldAddr 2 (.t 20)),
    fi 22 (.fieldAddr 0 (.t 21)),
    fi 23 (.load false 1 (.t 22)),
    fi 24 (.bin .eql (.t 18) (.t 23)),
    fi 17 (.mv (.t 24))])
   (.ite (.t 17)
   (.seq (.reg [] [fi 4 (.mv (.c (.int .i64 0)))])
   .ret)
   .skip)))))))
   s_copy_Copy_Hear_0))
theorem k_copy_Copy_Hear : chkFn Tryz.prog n_copy_Copy_Hear ⟨b_copy_Copy_Hear, [.tmp 4], 34⟩ = true := by kernel_rfl
/-- (*fascine/copy.Copy).Len -/
abbrev n_copy_Copy_Len : Nat := 14
def b_copy_Copy_Len : Cd := (.seq (.reg [] [fi 2 (.mv (.c (.int .i64 0)))])
   (.seq (.seq (.reg [] [fi 3 (.mv (.t 0)),
    fi 4 (.eq false .ptr (.t 3) (.c (.ptr none)))])
   (.ite (.t 4)
   (.seq (.reg [] [fi 2 (.mv (.c (.int .i64 0)))])
   .ret)
   .skip))
   (.seq (.reg [] [fi 5 (.mv (.t 0)),
    fi 6 (.nilCheck (.t 5)),
    fi 7 (.fieldAddr 1 (.t 6)),
    fi 8 (.load false 1 (.t 7)),
    fi 9 (.len .sl (.t 8)),
    fi 2 (.mv (.t 9))])
   .ret)))
theorem k_copy_Copy_Len : chkFn Tryz.prog n_copy_Copy_Len ⟨b_copy_Copy_Len, [.tmp 2], 10⟩ = true := by kernel_rfl
/-- (*fascine/copy.Copy).Ops -/
abbrev n_copy_Copy_Ops : Nat := 29
def b_copy_Copy_Ops : Cd := (.seq (.reg [] [fi 2 (.mv (.c (.sl [] 0 4 .nil)))])
   (.seq (.seq (.reg [] [fi 3 (.mv (.t 0)),
    fi 4 (.eq false .ptr (.t 3) (.c (.ptr none)))])
   (.ite (.t 4)
   (.seq (.reg [] [fi 2 (.mv (.c (.sl [] 0 4 .nil)))])
   .ret)
   .skip))
   (.seq (.reg [] [fi 5 (.mv (.t 0)),
    fi 6 (.nilCheck (.t 5)),
    fi 7 (.fieldAddr 1 (.t 6)),
    fi 8 (.load false 1 (.t 7)),
    ei 9 (.append 4 48 false (.c (.sl [] 0 4 .nil)) (.t 8)),
    fi 2 (.mv (.t 9))])
   .ret)))
theorem k_copy_Copy_Ops : chkFn Tryz.prog n_copy_Copy_Ops ⟨b_copy_Copy_Ops, [.tmp 2], 10⟩ = true := by kernel_rfl
/-- (*fascine/copy.Copy).Serve -/
abbrev n_copy_Copy_Serve : Nat := 12
def s_copy_Copy_Serve_0 : Cd := (.seq (.reg [] [fi 25 (.mv (.t 0)),
    fi 26 (.mv (.t 1)),
    fi 27 (.mv (.t 1)),
    fi 28 (.mv (.t 1)),
    fi 29 (.build [(.int .u64 0), (.int .u64 0), (.int .u64 0)] [(0, 1, (.t 26)), (1, 1, (.t 27)), (2, 1, (.t 28))]),
    ei 30 (.call 30 [(.t 25), (.t 29)]),
    fi 4 (.mv (.t 30))])
   .ret)
def b_copy_Copy_Serve : Cd := (.seq (.reg [] [fi 4 (.mv (.c (.int .i64 0)))])
   (.seq (.blk 0 (.seq (.reg [] [fi 6 (.mv (.t 0)),
    fi 7 (.eq false .ptr (.t 6) (.c (.ptr none))),
    fi 5 (.mv (.t 7))])
   (.ite (.t 5)
   (.seq (.reg [] [fi 4 (.mv (.c (.int .i64 8)))])
   .ret)
   (.seq (.reg [] [fi 9 (.mv (.t 1)),
    fi 10 (.mv (.t 0)),
    fi 11 (.nilCheck (.t 10)),
    fi 12 (.fieldAddr 2 (.t 11)),
    fi 13 (.fieldAddr 0 (.t 12)),
    fi 14 (.load false 1 (.t 13)),
    fi 15 (.bin .lss (.t 9) (.t 14)),
    fi 16 (.mv (.t 15)),
    .run ⟨(some 17), (some (16, false)), .f (.mv (.t 1))⟩,
    .run ⟨(some 18), (some (16, false)), .f (.mv (.t 0))⟩,
    .run ⟨(some 19), (some (16, false)), .f (.nilCheck (.t 18))⟩,
    .run ⟨(some 20), (some (16, false)), .f (.fieldAddr 2 (.t 19))⟩,
    .run ⟨(some 21), (some (16, false)), .f (.fieldAddr 1 (.t 20))⟩,
    .run ⟨(some 22), (some (16, false)), .f (.load false 1 (.t 21))⟩,
    .run ⟨(some 23), (some (16, false)), .f (.bin .leq (.t 17) (.t 22))⟩,
    fi 24 (.pick (.t 16) (.c (.bool true)) (.t 23)),
    fi 8 (.mv (.t 24))])
   (.ite (.t 8)
   (.seq (.reg [] [fi 4 (.mv (.c (.int .i64 12)))])
   .ret)
   .skip)))))
   s_copy_Copy_Serve_0))
theorem k_copy_Copy_Serve : chkFn Tryz.prog n_copy_Copy_Serve ⟨b_copy_Copy_Serve, [.tmp 4], 31⟩ = true := by kernel_rfl
/-- (*fascine/copy.Copy).Terms -/
abbrev n_copy_Copy_Terms : Nat := 15
def b_copy_Copy_Terms : Cd := (.seq (.reg [] [ei 2 (.alloc [(.int .u64 0), (.int .u64 0), (.int .u64 0)])])
   (.seq (.seq (.reg [] [fi 3 (.mv (.t 0)),
    fi 4 (.eq false .ptr (.t 3) (.c (.ptr none)))])
   (.ite (.t 4)
   (.seq (.reg [] [fi 5 (.build [(.int .u64 0), (.int .u64 0), (.int .u64 0)] []),
    st (.store 3 (.t 2) (.t 5))])
   .ret)
   .skip))
   (.seq (.reg [] [fi 6 (.mv (.t 0)),
    fi 7 (.nilCheck (.t 6)),
    fi 8 (.fieldAddr 2 (.t 7)),
    fi 9 (.load true 3 (.t 8)),
    st (.store 3 (.t 2) (.t 9))])
   .ret)))
theorem k_copy_Copy_Terms : chkFn Tryz.prog n_copy_Copy_Terms ⟨b_copy_Copy_Terms, [.cell 2 true 3], 10⟩ = true := by kernel_rfl
/-- (*fascine/copy.Copy).mark -/
abbrev n_copy_Copy_mark : Nat := 30
def b_copy_Copy_mark : Cd := (.seq (.reg [] [ei 3 (.box (.t 1)),
    fi 4 (.mv (.c (.int .i64 0)))])
   (.seq (.reg [0, 1, 2, 3, 4, 5, 3, 6, 7] [fi 6 (.mv (.t 0)),
    fi 7 (.nilCheck (.t 6)),
    fi 8 (.fieldAddr 0 (.t 7)),
    fi 9 (.load false 1 (.t 8)),
    fi 10 (.load true 3 (.t 3)),
    ei 11 (.call 45 [(.t 10)]),
    .chk 9 none (.load false 1 (.t 8)),
    ei 12 (.call 32 [(.t 9), (.t 11)]),
    fi 5 (.mv (.t 12))])
   (.seq (.seq (.reg [] [fi 13 (.mv (.t 5)),
    fi 14 (.bin .eql (.t 13) (.c (.int .i64 0)))])
   (.ite (.t 14)
   (.reg [] [fi 15 (.mv (.t 0)),
    fi 16 (.nilCheck (.t 15)),
    fi 17 (.fieldAddr 0 (.t 16)),
    fi 18 (.load false 1 (.t 17)),
    ei 19 (.call 33 [(.t 18)]),
    fi 5 (.mv (.t 19))])
   .skip))
   (.seq (.seq (.reg [] [fi 20 (.mv (.t 5)),
    fi 21 (.bin .eql (.t 20) (.c (.int .i64 0)))])
   (.ite (.t 21)
   (.reg [] [fi 22 (.mv (.t 0)),
    fi 23 (.load true 3 (.t 3)),
    fi 24 (.nilCheck (.t 22)),
    fi 25 (.fieldAddr 2 (.t 24)),
    st (.store 3 (.t 25) (.t 23))])
   .skip))
   (.seq (.reg [] [fi 26 (.mv (.t 5)),
    fi 4 (.mv (.t 26))])
   .ret)))))
theorem k_copy_Copy_mark : chkFn Tryz.prog n_copy_Copy_mark ⟨b_copy_Copy_mark, [.tmp 4], 27⟩ = true := by kernel_rfl
/-- (*fascine/copy.Copy).replay -/
abbrev n_copy_Copy_replay : Nat := 20
def l_copy_Copy_replay_0 : Cd := (.seq (.reg [] [fi 53 (.bin .lss (.t 52) (.t 51))])
   (.seq (.ite (.t 53)
   .skip
   (.exit 0))
   (.seq (.blk 1 (.seq (.reg [] [fi 54 (.indexAddr 1 (.t 50) (.t 52)),
    fi 55 (.load false 1 (.t 54)),
    fi 9 (.mv (.t 55))])
   (.seq (.reg [] [fi 57 (.mv (.t 1)),
    fi 58 (.mv (.t 7)),
    ei 59 (.call 41 [(.t 57), (.t 58)]),
    fi 56 (.mv (.t 59)),
    fi 60 (.extract (.t 56) 0),
    fi 61 (.extract (.t 56) 1),
    fi 62 (.extract (.t 56) 2),
    fi 10 (.mv (.t 60)),
    fi 11 (.mv (.t 61)),
    fi 12 (.mv (.t 62))])
   (.seq (.seq (.reg [] [fi 63 (.mv (.t 12)),
    fi 64 (.bin .neq (.t 63) (.c (.int .i64 0)))])
   (.ite (.t 64)
   (.seq (.reg [] [fi 4 (.mv (.c (.bool false)))])
   .ret)
   .skip))
   (.reg [] [fi 65 (.mv (.t 9)),
    fi 66 (.mv (.t 10)),
    fi 67 (.mv (.t 11)),
    fi 68 (.nilCheck (.t 65)),
    st (.store 1 (.t 68) (.t 66)),
    fi 7 (.mv (.t 67))])))))
   (.reg [] [fi 69 (.bin .add (.t 52) (.c (.int .i64 1))),
    fi 52 (.mv (.t 69))]))))
def s_copy_Copy_replay_0 : Cd := (.seq (.reg [] [fi 70 (.mv (.t 7)),
    fi 71 (.mv (.t 1)),
    fi 72 (.len .sl (.t 71)),
    fi 73 (.bin .eql (.t 70) (.t 72)),
    fi 74 (.mv (.t 73)),
    .run ⟨(some 75), (some (74, true)), .f (.mv (.t 1))⟩,
    .run ⟨(some 76), (some (74, true)), .f (.indexAddr 1 (.t 75) (.c (.int .i64 0)))⟩,
    .run ⟨(some 77), (some (74, true)), .f (.load false 1 (.t 76))⟩,
    .run ⟨(some 78), (some (74, true)), .f (.bin .eql (.t 77) (.c (.int .u8 70)))⟩,
    fi 79 (.pick (.t 74) (.t 78) (.c (.bool false))),
    fi 4 (.mv (.t 79))])
   .ret)
def b_copy_Copy_replay : Cd := (.seq (.reg [] [fi 4 (.mv (.c (.bool false)))])
   (.seq (.seq (.reg [] [fi 13 (.mv (.t 1)),
    fi 14 (.len .sl (.t 13)),
    fi 15 (.bin .eql (.t 14) (.c (.int .i64 0)))])
   (.ite (.t 15)
   (.seq (.reg [] [fi 4 (.mv (.c (.bool false)))])
   .ret)
   .skip))
   (.seq (.seq (.reg [] [fi 16 (.mv (.t 1)),
    fi 17 (.indexAddr 1 (.t 16) (.c (.int .i64 0))),
    fi 18 (.load false 1 (.t 17)),
    fi 19 (.bin .eql (.t 18) (.c (.int .u8 79)))])
   (.ite (.t 19)
   (.seq (.reg [] [fi 21 (.mv (.t 1)),
    fi 22 (.slice 1 (.t 21) (some (.c (.int .i64 1))) none none),
    ei 23 (.call 40 [(.t 22)]),
    fi 20 (.mv (.t 23)),
    fi 24 (.extract (.t 20) 0),
    fi 25 (.extract (.t 20) 1),
    ei 5 (.alloc [(.int .u64 0), (.str (mkS [])), (.int .i64 0), (.str (mkS []))]),
    st (.store 4 (.t 5) (.t 24)),
    fi 6 (.mv (.t 25))])
   (.seq (.reg [0, 1, 2, 3, 4, 5, 6, 4, 7, 8, 9, 10] [fi 26 (.mv (.t 0)),
    fi 27 (.mv (.t 0)),
    fi 28 (.nilCheck (.t 27)),
    fi 29 (.fieldAddr 1 (.t 28)),
    fi 30 (.load false 1 (.t 29)),
    fi 31 (.load true 4 (.t 5)),
    ei 32 (.buildSlice 1 4 0 [(.int .u64 0), (.str (mkS [])), (.int .i64 0), (.str (mkS []))] [(0, 4, (.t 31))]),
    .chk 30 none (.load false 1 (.t 29)),
    ei 33 (.append 4 48 false (.t 30) (.t 32)),
    fi 34 (.nilCheck (.t 26)),
    fi 35 (.fieldAddr 1 (.t 34)),
    st (.store 1 (.t 35) (.t 33))])
   (.seq (.reg [] [fi 36 (.mv (.t 6)),
    fi 37 (.bin .eql (.t 36) (.c (.int .i64 0))),
    fi 4 (.mv (.t 37))])
   .ret)))
   .skip))
   (.seq (.reg [] [fi 7 (.mv (.c (.int .i64 1)))])
   (.seq (.seq (.reg [0, 1, 2, 3, 4, 5, 6, 7, 8, 9, 10, 11, 14, 12, 13] [fi 38 (.mv (.t 0)),
    fi 39 (.nilCheck (.t 38)),
    fi 40 (.fieldAddr 2 (.t 39)),
    fi 41 (.fieldAddr 0 (.t 40)),
    fi 42 (.mv (.t 0)),
    fi 43 (.nilCheck (.t 42)),
    fi 44 (.fieldAddr 2 (.t 43)),
    fi 45 (.fieldAddr 1 (.t 44)),
    fi 46 (.mv (.t 0)),
    fi 47 (.nilCheck (.t 46)),
    fi 48 (.fieldAddr 2 (.t 47)),
    fi 49 (.fieldAddr 2 (.t 48)),
    fi 52 (.mv (.c (.int .i64 0))),
    ei 50 (.buildSlice 3 1 0 [(.ptr none), (.ptr none), (.ptr none)] [(0, 1, (.t 41)), (1, 1, (.t 45)), (2, 1, (.t 49))]),
    fi 51 (.len .sl (.t 50))])
   (.blk 0 (.loop l_copy_Copy_replay_0)))
   s_copy_Copy_replay_0)))))
theorem k_copy_Copy_replay : chkFn Tryz.prog n_copy_Copy_replay ⟨b_copy_Copy_replay, [.tmp 4], 80⟩ = true := by kernel_rfl
/-- fascine/copy.Decode -/
abbrev n_copy_Decode : Nat := 40
def b_copy_Decode : Cd := (.seq (.reg [] [ei 1 (.box (.t 0)),
    ei 2 (.alloc [(.int .u64 0), (.str (mkS [])), (.int .i64 0), (.str (mkS []))]),
    fi 3 (.mv (.c (.int .i64 0)))])
   (.seq (.reg [] [fi 9 (.build [(.int .u64 0), (.str (mkS [])), (.int .i64 0), (.str (mkS []))] []),
    ei 4 (.alloc [(.int .u64 0), (.str (mkS [])), (.int .i64 0), (.str (mkS []))]),
    ei 5 (.alloc [(.int .i64 0)]),
    ei 6 (.alloc [(.bool false)]),
    st (.store 4 (.t 4) (.t 9)),
    st (.store 1 (.t 5) (.c (.int .i64 0))),
    st (.store 1 (.t 6) (.c (.bool true)))])
   (.seq (.reg [] [fi 10 (.mkFunc 61 [] [(.t 1), (.t 5), (.t 6)]),
    fi 7 (.mv (.t 10))])
   (.seq (.reg [] [fi 11 (.mkFunc 62 [] [(.t 1), (.t 5), (.t 6)]),
    fi 8 (.mv (.t 11))])
   (.seq (.reg [] [fi 12 (.mv (.t 7)),
    ei 13 (.callV (.t 12) []),
    fi 14 (.fieldAddr 0 (.t 4)),
    st (.store 1 (.t 14) (.t 13))])
   (.seq (.reg [] [fi 15 (.mv (.t 8)),
    ei 16 (.callV (.t 15) [(.c (.int .i64 32))]),
    fi 17 (.fieldAddr 1 (.t 4)),
    fi 18 (.fieldAddr 0 (.t 17)),
    st (.store 1 (.t 18) (.t 16))])
   (.seq (.reg [] [fi 19 (.mv (.t 7)),
    ei 20 (.callV (.t 19) []),
    ei 21 (.call 64 [(.t 20)]),
    fi 22 (.fieldAddr 1 (.t 4)),
    fi 23 (.fieldAddr 1 (.t 22)),
    st (.store 1 (.t 23) (.t 21))])
   (.seq (.reg [] [fi 24 (.mv (.t 8)),
    ei 25 (.callV (.t 24) [(.c (.int .i64 512))]),
    fi 26 (.fieldAddr 1 (.t 4)),
    fi 27 (.fieldAddr 2 (.t 26)),
    st (.store 1 (.t 27) (.t 25))])
   (.seq (.seq (.reg [] [fi 28 (.load false 1 (.t 6)),
    fi 29 (.un .not (.t 28)),
    fi 30 (.mv (.t 29)),
    .run ⟨(some 31), (some (30, false)), .f (.load false 1 (.t 5))⟩,
    .run ⟨(some 32), (some (30, false)), .f (.load false 1 (.t 1))⟩,
    .run ⟨(some 33), (some (30, false)), .f (.len .sl (.t 32))⟩,
    .run ⟨(some 34), (some (30, false)), .f (.bin .neq (.t 31) (.t 33))⟩,
    fi 35 (.pick (.t 30) (.c (.bool true)) (.t 34)),
    fi 36 (.mv (.t 35)),
    .run ⟨(some 37), (some (36, false)), .f (.fieldAddr 1 (.t 4))⟩,
    .run ⟨(some 38), (some (36, false)), .f (.load true 3 (.t 37))⟩,
    .run ⟨(some 39), (some (36, false)), .e (.call 47 [(.t 38)])⟩,
    .run ⟨(some 40), (some (36, false)), .f (.un .not (.t 39))⟩,
    fi 41 (.pick (.t 36) (.c (.bool true)) (.t 40))])
   (.ite (.t 41)
   (.seq (.reg [] [fi 42 (.build [(.int .u64 0), (.str (mkS [])), (.int .i64 0), (.str (mkS []))] []),
    st (.store 4 (.t 2) (.t 42)),
    fi 3 (.mv (.c (.int .i64 3)))])
   .ret)
   .skip))
   (.seq (.reg [] [fi 43 (.load true 4 (.t 4)),
    st (.store 4 (.t 2) (.t 43)),
    fi 3 (.mv (.c (.int .i64 0)))])
   .ret))))))))))
theorem k_copy_Decode : chkFn Tryz.prog n_copy_Decode ⟨b_copy_Decode, [.cell 2 true 4, .tmp 3], 44⟩ = true := by kernel_rfl
/-- fascine/copy.Decode$1 -/
abbrev n_copy_Decode_1 : Nat := 61
def b_copy_Decode_1 : Cd := (.seq (.reg [] [fi 3 (.mv (.c (.int .u64 0)))])
   (.seq (.reg [] [fi 8 (.load false 1 (.t 0)),
    fi 9 (.load false 1 (.t 1)),
    ei 10 (.call 41 [(.t 8), (.t 9)]),
    fi 7 (.mv (.t 10)),
    fi 11 (.extract (.t 7) 0),
    fi 12 (.extract (.t 7) 1),
    fi 13 (.extract (.t 7) 2),
    fi 4 (.mv (.t 11)),
    fi 5 (.mv (.t 12)),
    fi 6 (.mv (.t 13))])
   (.seq (.seq (.reg [] [fi 14 (.mv (.t 6)),
    fi 15 (.bin .neq (.t 14) (.c (.int .i64 0)))])
   (.ite (.t 15)
   (.reg [0, 1, 2, 0, 3] [fi 16 (.load false 1 (.t 0)),
    fi 17 (.len .sl (.t 16)),
    st (.store 1 (.t 2) (.c (.bool false))),
    .chk 16 none (.load false 1 (.t 0)),
    fi 5 (.mv (.t 17))])
   .skip))
   (.seq (.reg [] [fi 18 (.mv (.t 5)),
    st (.store 1 (.t 1) (.t 18))])
   (.seq (.reg [] [fi 19 (.mv (.t 4)),
    fi 3 (.mv (.t 19))])
   .ret)))))
theorem k_copy_Decode_1 : chkFn Tryz.prog n_copy_Decode_1 ⟨b_copy_Decode_1, [.tmp 3], 20⟩ = true := by kernel_rfl
/-- fascine/copy.Decode$2 -/
abbrev n_copy_Decode_2 : Nat := 62
def b_copy_Decode_2 : Cd := (.seq (.reg [] [fi 5 (.mv (.c (.str (mkS []))))])
   (.seq (.reg [] [fi 10 (.load false 1 (.t 1)),
    fi 11 (.load false 1 (.t 2)),
    fi 12 (.mv (.t 0)),
    ei 13 (.call 63 [(.t 10), (.t 11), (.t 12)]),
    fi 9 (.mv (.t 13)),
    fi 14 (.extract (.t 9) 0),
    fi 15 (.extract (.t 9) 1),
    fi 16 (.extract (.t 9) 2),
    fi 6 (.mv (.t 14)),
    fi 7 (.mv (.t 15)),
    fi 8 (.mv (.t 16))])
   (.seq (.seq (.reg [] [fi 17 (.mv (.t 8)),
    fi 18 (.bin .neq (.t 17) (.c (.int .i64 0)))])
   (.ite (.t 18)
   (.reg [0, 1, 2, 0, 3] [fi 19 (.load false 1 (.t 1)),
    fi 20 (.len .sl (.t 19)),
    st (.store 1 (.t 3) (.c (.bool false))),
    .chk 19 none (.load false 1 (.t 1)),
    fi 7 (.mv (.t 20))])
   .skip))
   (.seq (.reg [] [fi 21 (.mv (.t 7)),
    st (.store 1 (.t 2) (.t 21))])
   (.seq (.reg [] [fi 22 (.mv (.t 6)),
    fi 5 (.mv (.t 22))])
   .ret)))))
theorem k_copy_Decode_2 : chkFn Tryz.prog n_copy_Decode_2 ⟨b_copy_Decode_2, [.tmp 5], 23⟩ = true := by kernel_rfl
/-- fascine/copy.Encode -/
abbrev n_copy_Encode : Nat := 31
def b_copy_Encode : Cd := (.seq (.reg [] [ei 1 (.box (.t 0)),
    fi 2 (.mv (.c (.sl [] 0 1 .nil))),
    fi 3 (.mv (.c (.int .i64 0)))])
   (.seq (.seq (.reg [] [fi 5 (.fieldAddr 1 (.t 1)),
    fi 6 (.load true 3 (.t 5)),
    ei 7 (.call 47 [(.t 6)]),
    fi 8 (.un .not (.t 7))])
   (.ite (.t 8)
   (.seq (.reg [] [fi 2 (.mv (.c (.sl [] 0 1 .nil))),
    fi 3 (.mv (.c (.int .i64 3)))])
   .ret)
   .skip))
   (.seq (.reg [] [fi 9 (.fieldAddr 0 (.t 1)),
    fi 10 (.load false 1 (.t 9)),
    ei 11 (.call 48 [(.t 10)]),
    fi 4 (.mv (.t 11))])
   (.seq (.reg [] [fi 12 (.mv (.t 4)),
    fi 13 (.fieldAddr 1 (.t 1)),
    fi 14 (.fieldAddr 0 (.t 13)),
    fi 15 (.load false 1 (.t 14)),
    ei 16 (.call 49 [(.t 15)]),
    ei 17 (.append 1 1 false (.t 12) (.t 16)),
    fi 4 (.mv (.t 17))])
   (.seq (.reg [] [fi 18 (.mv (.t 4)),
    fi 19 (.fieldAddr 1 (.t 1)),
    fi 20 (.fieldAddr 1 (.t 19)),
    fi 21 (.load false 1 (.t 20)),
    ei 22 (.call 50 [(.t 21)]),
    ei 23 (.call 48 [(.t 22)]),
    ei 24 (.append 1 1 false (.t 18) (.t 23)),
    fi 4 (.mv (.t 24))])
   (.seq (.reg [] [fi 25 (.mv (.t 4)),
    fi 26 (.fieldAddr 1 (.t 1)),
    fi 27 (.fieldAddr 2 (.t 26)),
    fi 28 (.load false 1 (.t 27)),
    ei 29 (.call 49 [(.t 28)]),
    ei 30 (.append 1 1 false (.t 25) (.t 29)),
    fi 2 (.mv (.t 30)),
    fi 3 (.mv (.c (.int .i64 0)))])
   .ret))))))
theorem k_copy_Encode : chkFn Tryz.prog n_copy_Encode ⟨b_copy_Encode, [.tmp 2, .tmp 3], 31⟩ = true := by kernel_rfl
/-- fascine/copy.Open -/
abbrev n_copy_Open : Nat := 7
def l_copy_Open_0 : Cd := (.seq (.reg [] [fi 35 (.bin .lss (.t 34) (.t 33))])
   (.seq (.ite (.t 35)
   .skip
   (.exit 0))
   (.seq (.blk 1 (.seq (.reg [] [fi 36 (.mv (.t 34)),
    fi 9 (.mv (.t 36))])
   (.seq (.reg [] [fi 38 (.mv (.t 6)),
    fi 39 (.mv (.t 9)),
    ei 40 (.call 19 [(.t 38), (.t 39)]),
    fi 37 (.mv (.t 40)),
    fi 41 (.extract (.t 37) 0),
    fi 42 (.extract (.t 37) 1),
    fi 10 (.mv (.t 41)),
    fi 11 (.mv (.t 42))])
   (.seq (.reg [] [fi 43 (.mv (.t 8)),
    fi 44 (.mv (.t 10)),
    ei 45 (.call 20 [(.t 43), (.t 44)]),
    fi 46 (.un .not (.t 45))])
   (.ite (.t 46)
   (.seq (.reg [] [fi 4 (.mv (.c (.ptr none))),
    fi 5 (.mv (.c (.int .i64 3)))])
   .ret)
   .skip)))))
   (.reg [] [fi 47 (.bin .add (.t 34) (.c (.int .i64 1))),
    fi 34 (.mv (.t 47))]))))
def b_copy_Open : Cd := (.seq (.reg [] [fi 4 (.mv (.c (.ptr none))),
    fi 5 (.mv (.c (.int .i64 0)))])
   (.seq (.seq (.reg [] [fi 12 (.mv (.t 1)),
    fi 13 (.bin .lss (.t 12) (.c (.int .i64 0))),
    fi 14 (.mv (.t 13)),
    .run ⟨(some 15), (some (14, false)), .f (.mv (.t 1))⟩,
    .run ⟨(some 16), (some (14, false)), .f (.bin .geq (.t 15) (.c (.int .i64 8)))⟩,
    fi 17 (.pick (.t 14) (.c (.bool true)) (.t 16))])
   (.ite (.t 17)
   (.seq (.reg [] [fi 4 (.mv (.c (.ptr none))),
    fi 5 (.mv (.c (.int .i64 1)))])
   .ret)
   .skip))
   (.seq (.reg [] [fi 19 (.mv (.t 0)),
    fi 20 (.mv (.t 1)),
    ei 21 (.call 17 [(.t 20)]),
    fi 22 (.bin .add (.c (.str (mkS [115, 104, 97, 114, 100, 45]))) (.t 21)),
    ei 23 (.call 16 [(.t 19), (.t 22)]),
    fi 18 (.mv (.t 23)),
    fi 24 (.extract (.t 18) 0),
    fi 25 (.extract (.t 18) 1),
    fi 6 (.mv (.t 24)),
    fi 7 (.mv (.t 25))])
   (.seq (.seq (.reg [] [fi 26 (.mv (.t 7)),
    fi 27 (.bin .neq (.t 26) (.c (.int .i64 0)))])
   (.ite (.t 27)
   (.seq (.reg [] [fi 28 (.mv (.t 7)),
    fi 4 (.mv (.c (.ptr none))),
    fi 5 (.mv (.t 28))])
   .ret)
   .skip))
   (.seq (.reg [] [fi 29 (.mv (.t 6)),
    fi 30 (.build [(.ptr none), (.sl [] 0 4 .nil), (.int .u64 0), (.int .u64 0), (.int .u64 0)] [(0, 1, (.t 29))]),
    ei 31 (.box (.t 30)),
    fi 8 (.mv (.t 31))])
   (.seq (.seq (.reg [] [fi 32 (.mv (.t 6)),
    ei 33 (.call 18 [(.t 32)]),
    fi 34 (.mv (.c (.int .i64 0)))])
   (.blk 0 (.loop l_copy_Open_0)))
   (.seq (.reg [] [fi 48 (.mv (.t 8)),
    fi 4 (.mv (.t 48)),
    fi 5 (.mv (.c (.int .i64 0)))])
   .ret)))))))
theorem k_copy_Open : chkFn Tryz.prog n_copy_Open ⟨b_copy_Open, [.tmp 4, .tmp 5], 49⟩ = true := by kernel_rfl
/-- (fascine/copy.Terms).record -/
abbrev n_copy_Terms_record : Nat := 45
def l_copy_Terms_record_0 : Cd := (.seq (.reg [] [fi 16 (.bin .lss (.t 15) (.t 14))])
   (.seq (.ite (.t 16)
   .skip
   (.exit 0))
   (.seq (.blk 1 (.seq (.reg [] [fi 17 (.indexAddr 1 (.t 13) (.t 15)),
    fi 18 (.load false 1 (.t 17)),
    fi 5 (.mv (.t 18))])
   (.reg [] [fi 19 (.mv (.t 3)),
    fi 20 (.mv (.t 5)),
    ei 21 (.call 48 [(.t 20)]),
    ei 22 (.append 1 1 false (.t 19) (.t 21)),
    fi 3 (.mv (.t 22))])))
   (.reg [] [fi 23 (.bin .add (.t 15) (.c (.int .i64 1))),
    fi 15 (.mv (.t 23))]))))
def b_copy_Terms_record : Cd := (.seq (.reg [] [ei 1 (.box (.t 0)),
    fi 2 (.mv (.c (.sl [] 0 1 .nil)))])
   (.seq (.reg [] [ei 6 (.buildSlice 1 1 0 [(.int .u8 0)] [(0, 1, (.c (.int .u8 70)))]),
    fi 3 (.mv (.t 6))])
   (.seq (.seq (.reg [] [fi 7 (.fieldAddr 0 (.t 1)),
    fi 8 (.load false 1 (.t 7)),
    fi 9 (.fieldAddr 1 (.t 1)),
    fi 10 (.load false 1 (.t 9)),
    fi 11 (.fieldAddr 2 (.t 1)),
    fi 12 (.load false 1 (.t 11)),
    ei 13 (.buildSlice 3 1 0 [(.int .u64 0), (.int .u64 0), (.int .u64 0)] [(0, 1, (.t 8)), (1, 1, (.t 10)), (2, 1, (.t 12))]),
    fi 14 (.len .sl (.t 13)),
    fi 15 (.mv (.c (.int .i64 0)))])
   (.blk 0 (.loop l_copy_Terms_record_0)))
   (.seq (.reg [] [fi 24 (.mv (.t 3)),
    fi 2 (.mv (.t 24))])
   .ret))))
theorem k_copy_Terms_record : chkFn Tryz.prog n_copy_Terms_record ⟨b_copy_Terms_record, [.tmp 2], 25⟩ = true := by kernel_rfl
/-- internal/strconv.FormatInt -/
abbrev n_internal_strconv_FormatInt : Nat := 60
def b_internal_strconv_FormatInt : Cd := (.seq (.reg [] [fi 4 (.mv (.c (.str (mkS []))))])
   (.seq (.seq (.reg [] [fi 10 (.mv (.t 1)),
    fi 11 (.bin .eql (.t 10) (.c (.int .i64 10)))])
   (.ite (.t 11)
   (.seq (.seq (.reg [] [fi 12 (.mv (.t 0)),
    fi 13 (.bin .leq (.c (.int .i64 0)) (.t 12)),
    fi 14 (.mv (.t 13)),
    .run ⟨(some 15), (some (14, true)), .f (.mv (.t 0))⟩,
    .run ⟨(some 16), (some (14, true)), .f (.bin .lss (.t 15) (.c (.int .i64 100)))⟩,
    fi 17 (.pick (.t 14) (.t 16) (.c (.bool false)))])
   (.ite (.t 17)
   (.seq (.reg [] [fi 18 (.mv (.t 0)),
    ei 19 (.call 74 [(.t 18)]),
    fi 4 (.mv (.t 19))])
   .ret)
   .skip))
   (.seq (.reg [] [ei 5 (.alloc [(.int .u8 0), (.int .u8 0), (.int .u8 0), (.int .u8 0), (.int .u8 0), (.int .u8 0), (.int .u8 0), (.int .u8 0), (.int .u8 0), (.int .u8 0), (.int .u8 0), (.int .u8 0), (.int .u8 0), (.int .u8 0), (.int .u8 0), (.int .u8 0), (.int .u8 0), (.int .u8 0), (.int .u8 0), (.int .u8 0), (.int .u8 0), (.int .u8 0), (.int .u8 0), (.int .u8 0)])])
   (.seq (.reg [] [fi 20 (.mv (.t 0)),
    fi 21 (.conv (.int .u64) (.t 20)),
    fi 6 (.mv (.t 21))])
   (.seq (.seq (.reg [] [fi 22 (.mv (.t 0)),
    fi 23 (.bin .lss (.t 22) (.c (.int .i64 0)))])
   (.ite (.t 23)
   (.reg [] [fi 24 (.mv (.t 6)),
    fi 25 (.un .neg (.t 24)),
    fi 6 (.mv (.t 25))])
   .skip))
   (.seq (.reg [] [fi 26 (.mv (.t 6)),
    ei 27 (.call 75 [(.t 26)]),
    fi 7 (.mv (.t 27))])
   (.seq .stuck
   (.seq (.seq (.reg [] [fi 33 (.mv (.t 0)),
    fi 34 (.bin .lss (.t 33) (.c (.int .i64 0)))])
   (.ite (.t 34)
   (.seq (.reg [] [fi 35 (.indexAddrA 24 1 (.t 5) (.c (.int .i64 0))),
    st (.store 1 (.t 35) (.c (.int .u8 45)))])
   (.seq .stuck
   .ret))
   .skip))
   (.seq .stuck
   .ret))))))))
   .skip))
   (.seq (.reg [] [fi 45 (.mv (.t 0)),
    fi 46 (.conv (.int .u64) (.t 45)),
    fi 47 (.mv (.t 1)),
    fi 48 (.mv (.t 0)),
    fi 49 (.bin .lss (.t 48) (.c (.int .i64 0))),
    ei 50 (.call 77 [(.c (.sl [] 0 1 .nil)), (.t 46), (.t 47), (.t 49), (.c (.bool false))]),
    fi 44 (.mv (.t 50)),
    fi 51 (.extract (.t 44) 0),
    fi 52 (.extract (.t 44) 1),
    fi 8 (.mv (.t 51)),
    fi 9 (.mv (.t 52))])
   (.seq (.reg [] [fi 53 (.mv (.t 9)),
    fi 4 (.mv (.t 53))])
   .ret))))
theorem k_internal_strconv_FormatInt : chkFn Tryz.prog n_internal_strconv_FormatInt ⟨b_internal_strconv_FormatInt, [.tmp 4], 54⟩ = true := by kernel_rfl
/-- internal/strconv.Itoa -/
abbrev n_internal_strconv_Itoa : Nat := 39
def b_internal_strconv_Itoa : Cd := (.seq (.reg [] [fi 2 (.mv (.c (.str (mkS []))))])
   (.seq (.reg [] [fi 3 (.mv (.t 0)),
    ei 4 (.call 60 [(.t 3), (.c (.int .i64 10))]),
    fi 2 (.mv (.t 4))])
   .ret))
theorem k_internal_strconv_Itoa : chkFn Tryz.prog n_internal_strconv_Itoa ⟨b_internal_strconv_Itoa, [.tmp 2], 5⟩ = true := by kernel_rfl
/-- internal/strconv.small -/
abbrev n_internal_strconv_small : Nat := 74
def b_internal_strconv_small : Cd := (.seq (.reg [] [fi 2 (.mv (.c (.str (mkS []))))])
   (.seq (.seq (.reg [] [fi 3 (.mv (.t 0)),
    fi 4 (.bin .lss (.t 3) (.c (.int .i64 10)))])
   (.ite (.t 4)
   (.seq (.reg [] [fi 5 (.mv (.t 0)),
    fi 6 (.mv (.t 0)),
    fi 7 (.bin .add (.t 6) (.c (.int .i64 1))),
    fi 8 (.sliceS (.c (.str (mkS [48, 49, 50, 51, 52, 53, 54, 55, 56, 57, 97, 98, 99, 100, 101, 102, 103, 104, 105, 106, 107, 108, 109, 110, 111, 112, 113, 114, 115, 116, 117, 118, 119, 120, 121, 122]))) (some (.t 5)) (some (.t 7))),
    fi 2 (.mv (.t 8))])
   .ret)
   .skip))
   (.seq (.reg [] [fi 9 (.mv (.t 0)),
    fi 10 (.bin .mul (.t 9) (.c (.int .i64 2))),
    fi 11 (.mv (.t 0)),
    fi 12 (.bin .mul (.t 11) (.c (.int .i64 2))),
    fi 13 (.bin .add (.t 12) (.c (.int .i64 2))),
    fi 14 (.sliceS (.c (.str (mkS [48, 48, 48, 49, 48, 50, 48, 51, 48, 52, 48, 53, 48, 54, 48, 55, 48, 56, 48, 57, 49, 48, 49, 49, 49, 50, 49, 51, 49, 52, 49, 53, 49, 54, 49, 55, 49, 56, 49, 57, 50, 48, 50, 49, 50, 50, 50, 51, 50, 52, 50, 53, 50, 54, 50, 55, 50, 56, 50, 57, 51, 48, 51, 49, 51, 50, 51, 51, 51, 52, 51, 53, 51, 54, 51, 55, 51, 56, 51, 57, 52, 48, 52, 49, 52, 50, 52, 51, 52, 52, 52, 53, 52, 54, 52, 55, 52, 56, 52, 57, 53, 48, 53, 49, 53, 50, 53, 51, 53, 52, 53, 53, 53, 54, 53, 55, 53, 56, 53, 57, 54, 48, 54, 49, 54, 50, 54, 51, 54, 52, 54, 53, 54, 54, 54, 55, 54, 56, 54, 57, 55, 48, 55, 49, 55, 50, 55, 51, 55, 52, 55, 53, 55, 54, 55, 55, 55, 56, 55, 57, 56, 48, 56, 49, 56, 50, 56, 51, 56, 52, 56, 53, 56, 54, 56, 55, 56, 56, 56, 57, 57, 48, 57, 49, 57, 50, 57, 51, 57, 52, 57, 53, 57, 54, 57, 55, 57, 56, 57, 57]))) (some (.t 10)) (some (.t 13))),
    fi 2 (.mv (.t 14))])
   .ret)))
theorem k_internal_strconv_small : chkFn Tryz.prog n_internal_strconv_small ⟨b_internal_strconv_small, [.tmp 2], 15⟩ = true := by kernel_rfl
/-- fascine/fascinelaw16.CopyCrashes -/
abbrev n_l16_CopyCrashes : Nat := 4
def r_l16_CopyCrashes_0 : Cd := (.seq (.blk 1 (.seq (.seq (.reg [] [fi 44 (.mv (.t 0)),
    fi 45 (.mv (.t 14)),
    fi 46 (.indexAddr 7 (.t 44) (.t 45)),
    fi 47 (.fieldAddr 6 (.t 46)),
    fi 48 (.load false 1 (.t 47)),
    fi 49 (.len .sl (.t 48)),
    fi 50 (.bin .gtr (.t 49) (.c (.int .i64 30)))])
   (.ite (.t 50)
   (.seq (.reg [] [fi 8 (.mv (.c (.bool true)))])
   .ret)
   .skip))
   (.reg [] [fi 51 (.mv (.t 11)),
    fi 52 (.mv (.t 13)),
    fi 53 (.mv (.t 0)),
    fi 54 (.mv (.t 14)),
    fi 55 (.indexAddr 7 (.t 53) (.t 54)),
    fi 56 (.load true 7 (.t 55)),
    ei 57 (.call 9 [(.t 51), (.t 52), (.t 56)])])))
   (.reg [] [fi 42 (.mv (.t 14)),
    fi 43 (.bin .add (.t 42) (.c (.int .i64 1))),
    fi 14 (.mv (.t 43))]))
def l_l16_CopyCrashes_0 : Cd := (.seq (.seq (.reg [] [fi 34 (.mv (.t 14)),
    fi 35 (.mv (.t 0)),
    fi 36 (.len .sl (.t 35)),
    fi 37 (.bin .lss (.t 34) (.t 36)),
    fi 38 (.mv (.t 37)),
    .run ⟨(some 39), (some (38, true)), .f (.mv (.t 14))⟩,
    .run ⟨(some 40), (some (38, true)), .f (.bin .lss (.t 39) (.c (.int .i64 20)))⟩,
    fi 41 (.pick (.t 38) (.t 40) (.c (.bool false)))])
   (.ite (.t 41)
   .skip
   (.exit 0)))
   r_l16_CopyCrashes_0)
def r_l16_CopyCrashes_1 : Cd := (.seq (.reg [] [fi 120 (.mv (.t 11)),
    fi 121 (.mv (.t 15)),
    ei 122 (.call 10 [(.t 120), (.t 121)]),
    fi 123 (.mv (.t 122)),
    .run ⟨(some 124), (some (123, false)), .f (.mv (.t 18))⟩,
    .run ⟨(some 125), (some (123, false)), .f (.un .not (.t 124))⟩,
    .run ⟨(some 126), (some (123, false)), .f (.mv (.t 125))⟩,
    .run ⟨(some 127), (some (126, true)), .f (.mv (.t 11))⟩,
    .run ⟨(some 128), (some (126, true)), .f (.mv (.t 13))⟩,
    .run ⟨(some 129), (some (126, true)), .e (.call 10 [(.t 127), (.t 128)])⟩,
    .run ⟨(some 130), (some (123, false)), .f (.pick (.t 126) (.t 129) (.c (.bool false)))⟩,
    fi 131 (.pick (.t 123) (.c (.bool true)) (.t 130)),
    fi 8 (.mv (.t 131))])
   .ret)
def r_l16_CopyCrashes_2 : Cd := (.seq (.reg [] [fi 108 (.mv (.t 16)),
    fi 109 (.bin .eql (.t 108) (.c (.int .i64 0))),
    fi 18 (.mv (.t 109))])
   (.seq (.reg [] [fi 110 (.mv (.t 9)),
    fi 111 (.mv (.t 3)),
    ei 112 (.call 8 [(.t 110), (.t 111)])])
   (.seq (.reg [] [fi 114 (.mv (.t 9)),
    ei 115 (.call 7 [(.t 114), (.c (.int .i64 0))]),
    fi 113 (.mv (.t 115)),
    fi 116 (.extract (.t 113) 0),
    fi 117 (.extract (.t 113) 1),
    fi 11 (.mv (.t 116)),
    fi 12 (.mv (.t 117))])
   (.seq (.seq (.reg [] [fi 118 (.mv (.t 12)),
    fi 119 (.bin .neq (.t 118) (.c (.int .i64 0)))])
   (.ite (.t 119)
   (.seq (.reg [] [fi 8 (.mv (.c (.bool false)))])
   .ret)
   .skip))
   r_l16_CopyCrashes_1))))
def r_l16_CopyCrashes_3 : Cd := (.seq (.reg [0, 1, 2, 3, 4, 5, 6, 7, 8, 9, 10, 11, 12, 13, 14] [fi 62 (.mv (.t 13)),
    fi 63 (.nilCheck (.t 62)),
    fi 64 (.fieldAddr 0 (.t 63)),
    fi 65 (.load false 1 (.t 64)),
    fi 66 (.mv (.t 13)),
    fi 67 (.nilCheck (.t 66)),
    fi 68 (.fieldAddr 1 (.t 67)),
    fi 69 (.load false 1 (.t 68)),
    fi 70 (.mv (.t 13)),
    fi 71 (.nilCheck (.t 70)),
    fi 72 (.fieldAddr 2 (.t 71)),
    fi 73 (.load false 1 (.t 72)),
    fi 74 (.build [(.int .u64 0), (.int .u64 0), (.int .u64 0), (.sl [] 0 4 .nil)] [(0, 1, (.t 65)), (1, 1, (.t 69)), (2, 1, (.t 73))]),
    ei 75 (.box (.t 74)),
    fi 15 (.mv (.t 75))])
   (.seq (.reg [0, 1, 2, 3, 4, 5, 6, 7, 8, 9, 10, 11, 12] [fi 76 (.mv (.t 15)),
    fi 77 (.mv (.t 15)),
    fi 78 (.nilCheck (.t 77)),
    fi 79 (.fieldAddr 3 (.t 78)),
    fi 80 (.load false 1 (.t 79)),
    fi 81 (.mv (.t 13)),
    fi 82 (.nilCheck (.t 81)),
    fi 83 (.fieldAddr 3 (.t 82)),
    fi 84 (.load false 1 (.t 83)),
    ei 85 (.append 4 48 false (.t 80) (.t 84)),
    fi 86 (.nilCheck (.t 76)),
    fi 87 (.fieldAddr 3 (.t 86)),
    st (.store 1 (.t 87) (.t 85))])
   (.seq (.reg [] [fi 88 (.mv (.t 9)),
    fi 89 (.mv (.t 1)),
    fi 90 (.conv (.int .i64) (.t 89)),
    fi 91 (.bin .rem (.t 90) (.c (.int .i64 4))),
    fi 92 (.bin .add (.c (.int .i64 1)) (.t 91)),
    ei 93 (.call 11 [(.t 88), (.t 92)])])
   (.seq (.reg [] [fi 95 (.mv (.t 11)),
    fi 96 (.mv (.t 15)),
    fi 97 (.load true 7 (.t 6)),
    ei 98 (.call 9 [(.t 95), (.t 96), (.t 97)]),
    fi 94 (.mv (.t 98)),
    fi 99 (.extract (.t 94) 0),
    fi 100 (.extract (.t 94) 1),
    fi 16 (.mv (.t 99)),
    fi 17 (.mv (.t 100))])
   (.seq (.seq (.reg [] [fi 101 (.mv (.t 16)),
    fi 102 (.mv (.t 17)),
    fi 103 (.bin .neq (.t 101) (.t 102)),
    fi 104 (.mv (.t 103)),
    .run ⟨(some 105), (some (104, true)), .f (.mv (.t 16))⟩,
    .run ⟨(some 106), (some (104, true)), .f (.bin .neq (.t 105) (.c (.int .i64 10)))⟩,
    fi 107 (.pick (.t 104) (.t 106) (.c (.bool false)))])
   (.ite (.t 107)
   (.seq (.reg [] [fi 8 (.mv (.c (.bool false)))])
   .ret)
   .skip))
   r_l16_CopyCrashes_2)))))
def r_l16_CopyCrashes_4 : Cd := (.seq (.reg [] [fi 32 (.build [(.int .u64 0), (.int .u64 0), (.int .u64 0), (.sl [] 0 4 .nil)] []),
    ei 33 (.box (.t 32)),
    fi 13 (.mv (.t 33))])
   (.seq (.seq (.reg [] [fi 14 (.mv (.c (.int .i64 0)))])
   (.blk 0 (.loop l_l16_CopyCrashes_0)))
   (.seq (.seq (.reg [] [fi 58 (.fieldAddr 6 (.t 6)),
    fi 59 (.load false 1 (.t 58)),
    fi 60 (.len .sl (.t 59)),
    fi 61 (.bin .gtr (.t 60) (.c (.int .i64 30)))])
   (.ite (.t 61)
   (.seq (.reg [] [fi 8 (.mv (.c (.bool true)))])
   .ret)
   .skip))
   r_l16_CopyCrashes_3)))
def r_l16_CopyCrashes_5 : Cd := (.seq (.reg [] [ei 22 (.call 6 [(.c (.int .i64 4194304))]),
    fi 21 (.mv (.t 22)),
    fi 23 (.extract (.t 21) 0),
    fi 24 (.extract (.t 21) 1),
    fi 9 (.mv (.t 23)),
    fi 10 (.mv (.t 24))])
   (.seq (.reg [] [fi 26 (.mv (.t 9)),
    ei 27 (.call 7 [(.t 26), (.c (.int .i64 0))]),
    fi 25 (.mv (.t 27)),
    fi 28 (.extract (.t 25) 0),
    fi 29 (.extract (.t 25) 1),
    fi 11 (.mv (.t 28)),
    fi 12 (.mv (.t 29))])
   (.seq (.seq (.reg [] [fi 30 (.mv (.t 12)),
    fi 31 (.bin .neq (.t 30) (.c (.int .i64 0)))])
   (.ite (.t 31)
   (.seq (.reg [] [fi 8 (.mv (.c (.bool false)))])
   .ret)
   .skip))
   r_l16_CopyCrashes_4)))
def b_l16_CopyCrashes : Cd := (.seq (.reg [] [ei 6 (.box (.t 2)),
    fi 8 (.mv (.c (.bool false)))])
   (.seq (.seq (.reg [] [ei 19 (.call 5 []),
    fi 20 (.un .not (.t 19))])
   (.ite (.t 20)
   (.seq (.reg [] [fi 8 (.mv (.c (.bool false)))])
   .ret)
   .skip))
   r_l16_CopyCrashes_5))
theorem k_l16_CopyCrashes : chkFn Tryz.prog n_l16_CopyCrashes ⟨b_l16_CopyCrashes, [.tmp 8], 132⟩ = true := by kernel_rfl
/-- fascine/fascinelaw16.CopyPlays -/
abbrev n_l16_CopyPlays : Nat := 3
def r_l16_CopyPlays_0 : Cd := (.seq (.reg [] [fi 75 (.mv (.t 7)),
    fi 76 (.mv (.t 9)),
    fi 77 (.load true 7 (.t 11)),
    ei 78 (.call 9 [(.t 75), (.t 76), (.t 77)]),
    fi 74 (.mv (.t 78)),
    fi 79 (.extract (.t 74) 0),
    fi 80 (.extract (.t 74) 1),
    fi 12 (.mv (.t 79)),
    fi 13 (.mv (.t 80))])
   (.seq (.reg [] [fi 81 (.mv (.t 12)),
    fi 82 (.mv (.t 13)),
    fi 83 (.bin .neq (.t 81) (.t 82)),
    fi 84 (.mv (.t 83)),
    .run ⟨(some 85), (some (84, false)), .f (.mv (.t 7))⟩,
    .run ⟨(some 86), (some (84, false)), .f (.mv (.t 9))⟩,
    .run ⟨(some 87), (some (84, false)), .e (.call 10 [(.t 85), (.t 86)])⟩,
    .run ⟨(some 88), (some (84, false)), .f (.un .not (.t 87))⟩,
    fi 89 (.pick (.t 84) (.c (.bool true)) (.t 88))])
   (.ite (.t 89)
   (.seq (.reg [] [fi 4 (.mv (.c (.bool false)))])
   .ret)
   .skip)))
def r_l16_CopyPlays_1 : Cd := (.seq (.seq (.reg [] [fi 70 (.fieldAddr 6 (.t 11)),
    fi 71 (.load false 1 (.t 70)),
    fi 72 (.len .sl (.t 71)),
    fi 73 (.bin .gtr (.t 72) (.c (.int .i64 30)))])
   (.ite (.t 73)
   (.seq (.reg [] [fi 4 (.mv (.c (.bool true)))])
   .ret)
   .skip))
   r_l16_CopyPlays_0)
def k_l16_CopyPlays_0 : Cd := (.seq (.reg [] [fi 52 (.mv (.t 1)),
    fi 53 (.mv (.t 10)),
    fi 54 (.indexAddr 7 (.t 52) (.t 53)),
    fi 55 (.load true 7 (.t 54)),
    ei 11 (.alloc [(.int .u8 0), (.int .u64 0), (.int .u64 0), (.str (mkS [])), (.int .i64 0), (.str (mkS [])), (.sl [] 0 4 .nil)]),
    st (.store 7 (.t 11) (.t 55))])
   (.seq (.seq (.reg [] [fi 56 (.fieldAddr 0 (.t 11)),
    fi 57 (.load false 1 (.t 56)),
    fi 58 (.bin .rem (.t 57) (.c (.int .u8 5))),
    fi 59 (.bin .eql (.t 58) (.c (.int .u8 4)))])
   (.ite (.t 59)
   (.seq (.reg [] [fi 60 (.mv (.t 5)),
    ei 61 (.call 8 [(.t 60), (.c (.sl [] 0 1 .nil))])])
   (.seq (.reg [] [fi 63 (.mv (.t 5)),
    fi 64 (.mv (.t 0)),
    ei 65 (.call 7 [(.t 63), (.t 64)]),
    fi 62 (.mv (.t 65)),
    fi 66 (.extract (.t 62) 0),
    fi 67 (.extract (.t 62) 1),
    fi 7 (.mv (.t 66)),
    fi 8 (.mv (.t 67))])
   (.seq (.reg [] [fi 68 (.mv (.t 8)),
    fi 69 (.bin .neq (.t 68) (.c (.int .i64 0)))])
   (.ite (.t 69)
   (.seq (.reg [] [fi 4 (.mv (.c (.bool false)))])
   .ret)
   .skip))))
   .skip))
   r_l16_CopyPlays_1))
def l_l16_CopyPlays_0 : Cd := (.seq (.seq (.reg [] [fi 42 (.mv (.t 10)),
    fi 43 (.mv (.t 1)),
    fi 44 (.len .sl (.t 43)),
    fi 45 (.bin .lss (.t 42) (.t 44)),
    fi 46 (.mv (.t 45)),
    .run ⟨(some 47), (some (46, true)), .f (.mv (.t 10))⟩,
    .run ⟨(some 48), (some (46, true)), .f (.bin .lss (.t 47) (.c (.int .i64 40)))⟩,
    fi 49 (.pick (.t 46) (.t 48) (.c (.bool false)))])
   (.ite (.t 49)
   .skip
   (.exit 0)))
   (.seq (.blk 1 k_l16_CopyPlays_0)
   (.reg [] [fi 50 (.mv (.t 10)),
    fi 51 (.bin .add (.t 50) (.c (.int .i64 1))),
    fi 10 (.mv (.t 51))])))
def r_l16_CopyPlays_2 : Cd := (.seq (.reg [] [fi 40 (.build [(.int .u64 0), (.int .u64 0), (.int .u64 0), (.sl [] 0 4 .nil)] []),
    ei 41 (.box (.t 40)),
    fi 9 (.mv (.t 41))])
   (.seq (.seq (.reg [] [fi 10 (.mv (.c (.int .i64 0)))])
   (.blk 0 (.loop l_l16_CopyPlays_0)))
   (.seq (.reg [] [fi 4 (.mv (.c (.bool true)))])
   .ret)))
def r_l16_CopyPlays_3 : Cd := (.seq (.reg [] [ei 17 (.call 6 [(.c (.int .i64 4194304))]),
    fi 16 (.mv (.t 17)),
    fi 18 (.extract (.t 16) 0),
    fi 19 (.extract (.t 16) 1),
    fi 5 (.mv (.t 18)),
    fi 6 (.mv (.t 19))])
   (.seq (.reg [] [fi 21 (.mv (.t 5)),
    fi 22 (.mv (.t 0)),
    ei 23 (.call 7 [(.t 21), (.t 22)]),
    fi 20 (.mv (.t 23)),
    fi 24 (.extract (.t 20) 0),
    fi 25 (.extract (.t 20) 1),
    fi 7 (.mv (.t 24)),
    fi 8 (.mv (.t 25))])
   (.seq (.seq (.reg [] [fi 26 (.mv (.t 0)),
    fi 27 (.bin .lss (.t 26) (.c (.int .i64 0))),
    fi 28 (.mv (.t 27)),
    .run ⟨(some 29), (some (28, false)), .f (.mv (.t 0))⟩,
    .run ⟨(some 30), (some (28, false)), .f (.bin .gtr (.t 29) (.c (.int .i64 7)))⟩,
    fi 31 (.pick (.t 28) (.c (.bool true)) (.t 30))])
   (.ite (.t 31)
   (.seq (.reg [] [fi 32 (.mv (.t 8)),
    fi 33 (.bin .eql (.t 32) (.c (.int .i64 1))),
    fi 34 (.mv (.t 33)),
    .run ⟨(some 35), (some (34, true)), .f (.mv (.t 7))⟩,
    .run ⟨(some 36), (some (34, true)), .f (.eq false .ptr (.t 35) (.c (.ptr none)))⟩,
    fi 37 (.pick (.t 34) (.t 36) (.c (.bool false))),
    fi 4 (.mv (.t 37))])
   .ret)
   .skip))
   (.seq (.seq (.reg [] [fi 38 (.mv (.t 8)),
    fi 39 (.bin .neq (.t 38) (.c (.int .i64 0)))])
   (.ite (.t 39)
   (.seq (.reg [] [fi 4 (.mv (.c (.bool false)))])
   .ret)
   .skip))
   r_l16_CopyPlays_2))))
def b_l16_CopyPlays : Cd := (.seq (.reg [] [fi 4 (.mv (.c (.bool false)))])
   (.seq (.seq (.reg [] [ei 14 (.call 5 []),
    fi 15 (.un .not (.t 14))])
   (.ite (.t 15)
   (.seq (.reg [] [fi 4 (.mv (.c (.bool false)))])
   .ret)
   .skip))
   r_l16_CopyPlays_3))
theorem k_l16_CopyPlays : chkFn Tryz.prog n_l16_CopyPlays ⟨b_l16_CopyPlays, [.tmp 4], 90⟩ = true := by kernel_rfl
/-- fascine/fascinelaw16.awake -/
abbrev n_l16_awake : Nat := 5
def b_l16_awake : Cd := (.seq (.reg [] [fi 0 (.mv (.c (.bool false)))])
   (.seq (.reg [] [ei 6 (.call 6 [(.c (.int .i64 1000))]),
    fi 5 (.mv (.t 6)),
    fi 7 (.extract (.t 5) 0),
    fi 8 (.extract (.t 5) 1),
    fi 1 (.mv (.t 7)),
    fi 2 (.mv (.t 8))])
   (.seq (.reg [] [fi 10 (.mv (.t 1)),
    ei 11 (.call 7 [(.t 10), (.c (.int .i64 0))]),
    fi 9 (.mv (.t 11)),
    fi 12 (.extract (.t 9) 0),
    fi 13 (.extract (.t 9) 1),
    fi 3 (.mv (.t 12)),
    fi 4 (.mv (.t 13))])
   (.seq (.reg [] [fi 14 (.mv (.t 4)),
    fi 15 (.bin .eql (.t 14) (.c (.int .i64 0))),
    fi 16 (.mv (.t 15)),
    .run ⟨(some 17), (some (16, true)), .f (.mv (.t 3))⟩,
    .run ⟨(some 18), (some (16, true)), .e (.call 12 [(.t 17), (.c (.int .u64 1))])⟩,
    .run ⟨(some 19), (some (16, true)), .f (.bin .eql (.t 18) (.c (.int .i64 0)))⟩,
    fi 20 (.pick (.t 16) (.t 19) (.c (.bool false))),
    fi 21 (.mv (.t 20)),
    .run ⟨(some 22), (some (21, true)), .f (.mv (.t 3))⟩,
    .run ⟨(some 23), (some (21, true)), .f (.build [(.str (mkS [])), (.int .i64 0), (.str (mkS []))] [(0, 1, (.c (.str (mkS [97]))))])⟩,
    .run ⟨(some 24), (some (21, true)), .f (.build [(.int .u64 0), (.str (mkS [])), (.int .i64 0), (.str (mkS []))] [(0, 1, (.c (.int .u64 1))), (1, 3, (.t 23))])⟩,
    .run ⟨(some 25), (some (21, true)), .e (.call 13 [(.t 22), (.t 24)])⟩,
    .run ⟨(some 26), (some (21, true)), .f (.bin .eql (.t 25) (.c (.int .i64 0)))⟩,
    fi 27 (.pick (.t 21) (.t 26) (.c (.bool false))),
    fi 28 (.mv (.t 27)),
    .run ⟨(some 29), (some (28, true)), .f (.mv (.t 3))⟩,
    .run ⟨(some 30), (some (28, true)), .e (.call 14 [(.t 29)])⟩,
    .run ⟨(some 31), (some (28, true)), .f (.bin .eql (.t 30) (.c (.int .i64 1)))⟩,
    fi 32 (.pick (.t 28) (.t 31) (.c (.bool false))),
    fi 33 (.mv (.t 32)),
    .run ⟨(some 34), (some (33, true)), .f (.mv (.t 3))⟩,
    .run ⟨(some 35), (some (33, true)), .e (.call 15 [(.t 34)])⟩,
    .run ⟨(some 36), (some (33, true)), .f (.field false 2 1 (.t 35))⟩,
    .run ⟨(some 37), (some (33, true)), .f (.bin .eql (.t 36) (.c (.int .u64 1)))⟩,
    fi 38 (.pick (.t 33) (.t 37) (.c (.bool false))),
    fi 0 (.mv (.t 38))])
   .ret))))
theorem k_l16_awake : chkFn Tryz.prog n_l16_awake ⟨b_l16_awake, [.tmp 0], 39⟩ = true := by kernel_rfl
/-- fascine/fascinelaw16.do -/
abbrev n_l16_do : Nat := 9
def k_l16_do_0 : Cd := (.seq (.reg [] [fi 12 (.bin .eql (.t 10) (.c (.int .u8 0))),
    fi 11 (.mv (.t 12))])
   (.ite (.t 11)
   (.seq (.reg [0, 1, 2, 4, 5, 6, 3, 6, 7, 8, 9] [fi 13 (.mv (.t 0)),
    fi 14 (.fieldAddr 1 (.t 5)),
    fi 15 (.load false 1 (.t 14)),
    fi 17 (.mv (.t 1)),
    fi 18 (.fieldAddr 1 (.t 5)),
    fi 19 (.load false 1 (.t 18)),
    ei 16 (.call 22 [(.t 13), (.t 15)]),
    .chk 19 none (.load false 1 (.t 18)),
    ei 20 (.call 23 [(.t 17), (.t 19)]),
    fi 6 (.mv (.t 16)),
    fi 7 (.mv (.t 20))])
   .ret)
   (.seq (.reg [] [fi 22 (.bin .eql (.t 10) (.c (.int .u8 1))),
    fi 21 (.mv (.t 22))])
   (.ite (.t 21)
   (.seq (.reg [0, 1, 2, 4, 5, 6, 3, 6, 7, 8, 9] [fi 23 (.mv (.t 0)),
    fi 24 (.fieldAddr 1 (.t 5)),
    fi 25 (.load false 1 (.t 24)),
    fi 27 (.mv (.t 1)),
    fi 28 (.fieldAddr 1 (.t 5)),
    fi 29 (.load false 1 (.t 28)),
    ei 26 (.call 12 [(.t 23), (.t 25)]),
    .chk 29 none (.load false 1 (.t 28)),
    ei 30 (.call 24 [(.t 27), (.t 29)]),
    fi 6 (.mv (.t 26)),
    fi 7 (.mv (.t 30))])
   .ret)
   (.seq (.reg [] [fi 32 (.bin .eql (.t 10) (.c (.int .u8 2))),
    fi 31 (.mv (.t 32))])
   (.ite (.t 31)
   (.seq (.reg [0, 1, 2, 4, 5, 6, 3, 6, 7, 8, 9] [fi 33 (.mv (.t 0)),
    fi 34 (.fieldAddr 2 (.t 5)),
    fi 35 (.load true 4 (.t 34)),
    fi 37 (.mv (.t 1)),
    fi 38 (.fieldAddr 2 (.t 5)),
    fi 39 (.load true 4 (.t 38)),
    ei 36 (.call 13 [(.t 33), (.t 35)]),
    .chk 39 none (.load true 4 (.t 38)),
    ei 40 (.call 25 [(.t 37), (.t 39)]),
    fi 6 (.mv (.t 36)),
    fi 7 (.mv (.t 40))])
   .ret)
   (.seq (.reg [] [fi 42 (.bin .eql (.t 10) (.c (.int .u8 3))),
    fi 41 (.mv (.t 42))])
   (.ite (.t 41)
   (.seq (.reg [0, 1, 2, 3, 4, 6, 7, 8, 9, 10, 5, 8, 10, 11, 12, 13] [fi 43 (.mv (.t 0)),
    fi 44 (.fieldAddr 1 (.t 5)),
    fi 45 (.load false 1 (.t 44)),
    fi 46 (.fieldAddr 6 (.t 5)),
    fi 47 (.load false 1 (.t 46)),
    fi 49 (.mv (.t 1)),
    fi 50 (.fieldAddr 1 (.t 5)),
    fi 51 (.load false 1 (.t 50)),
    fi 52 (.fieldAddr 6 (.t 5)),
    fi 53 (.load false 1 (.t 52)),
    ei 48 (.call 26 [(.t 43), (.t 45), (.t 47)]),
    .chk 51 none (.load false 1 (.t 50)),
    .chk 53 none (.load false 1 (.t 52)),
    ei 54 (.call 27 [(.t 49), (.t 51), (.t 53)]),
    fi 6 (.mv (.t 48)),
    fi 7 (.mv (.t 54))])
   .ret)
   .skip))))))))
def b_l16_do : Cd := (.seq (.reg [] [ei 5 (.box (.t 2)),
    fi 6 (.mv (.c (.int .i64 0))),
    fi 7 (.mv (.c (.int .i64 0)))])
   (.seq (.seq (.reg [] [fi 8 (.fieldAddr 0 (.t 5)),
    fi 9 (.load false 1 (.t 8)),
    fi 10 (.bin .rem (.t 9) (.c (.int .u8 5)))])
   (.blk 0 k_l16_do_0))
   (.seq (.reg [] [fi 6 (.mv (.c (.int .i64 0))),
    fi 7 (.mv (.c (.int .i64 0)))])
   .ret)))
theorem k_l16_do : chkFn Tryz.prog n_l16_do ⟨b_l16_do, [.tmp 6, .tmp 7], 55⟩ = true := by kernel_rfl
/-- fascine/fascinelaw16.same -/
abbrev n_l16_same : Nat := 10
def b_l16_same : Cd := (.seq (.reg [] [fi 4 (.mv (.c (.bool false)))])
   (.seq (.reg [] [fi 6 (.mv (.t 0)),
    ei 7 (.call 15 [(.t 6)]),
    ei 5 (.alloc [(.int .u64 0), (.int .u64 0), (.int .u64 0)]),
    st (.store 3 (.t 5) (.t 7))])
   (.seq (.reg [0, 1, 2, 3, 4, 5, 6, 7, 8, 9, 10, 11, 12, 13, 14, 15, 16, 17, 18, 19, 20, 21, 22, 23, 24, 25, 26, 28, 29, 30, 31, 32, 27, 31, 33, 34, 35, 36, 38, 39, 40, 41, 37, 41, 42, 43, 44] [fi 8 (.fieldAddr 0 (.t 5)),
    fi 9 (.load false 1 (.t 8)),
    fi 10 (.mv (.t 1)),
    fi 11 (.nilCheck (.t 10)),
    fi 12 (.fieldAddr 0 (.t 11)),
    fi 13 (.load false 1 (.t 12)),
    fi 14 (.bin .eql (.t 9) (.t 13)),
    fi 15 (.mv (.t 14)),
    .run ⟨(some 16), (some (15, true)), .f (.fieldAddr 1 (.t 5))⟩,
    .run ⟨(some 17), (some (15, true)), .f (.load false 1 (.t 16))⟩,
    .run ⟨(some 18), (some (15, true)), .f (.mv (.t 1))⟩,
    .run ⟨(some 19), (some (15, true)), .f (.nilCheck (.t 18))⟩,
    .run ⟨(some 20), (some (15, true)), .f (.fieldAddr 1 (.t 19))⟩,
    .run ⟨(some 21), (some (15, true)), .f (.load false 1 (.t 20))⟩,
    .run ⟨(some 22), (some (15, true)), .f (.bin .eql (.t 17) (.t 21))⟩,
    fi 23 (.pick (.t 15) (.t 22) (.c (.bool false))),
    fi 24 (.mv (.t 23)),
    .run ⟨(some 25), (some (24, true)), .f (.fieldAddr 2 (.t 5))⟩,
    .run ⟨(some 26), (some (24, true)), .f (.load false 1 (.t 25))⟩,
    .run ⟨(some 27), (some (24, true)), .f (.mv (.t 1))⟩,
    .run ⟨(some 28), (some (24, true)), .f (.nilCheck (.t 27))⟩,
    .run ⟨(some 29), (some (24, true)), .f (.fieldAddr 2 (.t 28))⟩,
    .run ⟨(some 30), (some (24, true)), .f (.load false 1 (.t 29))⟩,
    .run ⟨(some 31), (some (24, true)), .f (.bin .eql (.t 26) (.t 30))⟩,
    fi 32 (.pick (.t 24) (.t 31) (.c (.bool false))),
    fi 33 (.mv (.t 32)),
    .run ⟨(some 34), (some (33, true)), .f (.mv (.t 0))⟩,
    .run ⟨(some 36), (some (33, true)), .f (.mv (.t 1))⟩,
    .run ⟨(some 37), (some (33, true)), .f (.nilCheck (.t 36))⟩,
    .run ⟨(some 38), (some (33, true)), .f (.fieldAddr 3 (.t 37))⟩,
    .run ⟨(some 39), (some (33, true)), .f (.load false 1 (.t 38))⟩,
    .run ⟨(some 40), (some (33, true)), .f (.len .sl (.t 39))⟩,
    .run ⟨(some 35), (some (33, true)), .e (.call 14 [(.t 34)])⟩,
    .chk 39 (some (33, true)) (.load false 1 (.t 38)),
    .run ⟨(some 41), (some (33, true)), .f (.bin .eql (.t 35) (.t 40))⟩,
    fi 42 (.pick (.t 33) (.t 41) (.c (.bool false))),
    fi 43 (.mv (.t 42)),
    .run ⟨(some 44), (some (43, true)), .f (.mv (.t 0))⟩,
    .run ⟨(some 46), (some (43, true)), .f (.mv (.t 1))⟩,
    .run ⟨(some 47), (some (43, true)), .f (.nilCheck (.t 46))⟩,
    .run ⟨(some 48), (some (43, true)), .f (.fieldAddr 3 (.t 47))⟩,
    .run ⟨(some 49), (some (43, true)), .f (.load false 1 (.t 48))⟩,
    .run ⟨(some 45), (some (43, true)), .e (.call 29 [(.t 44)])⟩,
    .chk 49 (some (43, true)) (.load false 1 (.t 48)),
    .run ⟨(some 50), (some (43, true)), .e (.call 28 [(.t 45), (.t 49)])⟩,
    fi 51 (.pick (.t 43) (.t 50) (.c (.bool false))),
    fi 4 (.mv (.t 51))])
   .ret)))
theorem k_l16_same : chkFn Tryz.prog n_l16_same ⟨b_l16_same, [.tmp 4], 52⟩ = true := by kernel_rfl
/-- fascine/match.Form -/
abbrev n_match_Form : Nat := 47
def l_match_Form_0 : Cd := (.seq (.reg [] [fi 8 (.bin .lss (.t 7) (.t 6))])
   (.seq (.ite (.t 8)
   .skip
   (.exit 0))
   (.seq (.blk 1 (.seq (.reg [] [fi 9 (.mv (.t 7)),
    fi 3 (.mv (.t 9))])
   (.seq (.reg [] [fi 10 (.fieldAddr 0 (.t 1)),
    fi 11 (.load false 1 (.t 10)),
    fi 12 (.mv (.t 3)),
    fi 13 (.indexS (.t 11) (.t 12)),
    fi 14 (.bin .leq (.t 13) (.c (.int .u8 32))),
    fi 15 (.mv (.t 14)),
    .run ⟨(some 16), (some (15, false)), .f (.fieldAddr 0 (.t 1))⟩,
    .run ⟨(some 17), (some (15, false)), .f (.load false 1 (.t 16))⟩,
    .run ⟨(some 18), (some (15, false)), .f (.mv (.t 3))⟩,
    .run ⟨(some 19), (some (15, false)), .f (.indexS (.t 17) (.t 18))⟩,
    .run ⟨(some 20), (some (15, false)), .f (.bin .gtr (.t 19) (.c (.int .u8 126)))⟩,
    fi 21 (.pick (.t 15) (.c (.bool true)) (.t 20))])
   (.ite (.t 21)
   (.seq (.reg [] [fi 2 (.mv (.c (.bool false)))])
   .ret)
   .skip))))
   (.reg [] [fi 22 (.bin .add (.t 7) (.c (.int .i64 1))),
    fi 7 (.mv (.t 22))]))))
def s_match_Form_0 : Cd := (.seq (.reg [] [fi 23 (.fieldAddr 0 (.t 1)),
    fi 24 (.load false 1 (.t 23)),
    fi 25 (.len .str (.t 24)),
    fi 26 (.bin .geq (.t 25) (.c (.int .i64 1))),
    fi 27 (.mv (.t 26)),
    .run ⟨(some 28), (some (27, true)), .f (.fieldAddr 0 (.t 1))⟩,
    .run ⟨(some 29), (some (27, true)), .f (.load false 1 (.t 28))⟩,
    .run ⟨(some 30), (some (27, true)), .f (.len .str (.t 29))⟩,
    .run ⟨(some 31), (some (27, true)), .f (.bin .leq (.t 30) (.c (.int .i64 32)))⟩,
    fi 32 (.pick (.t 27) (.t 31) (.c (.bool false))),
    fi 33 (.mv (.t 32)),
    .run ⟨(some 34), (some (33, true)), .f (.fieldAddr 2 (.t 1))⟩,
    .run ⟨(some 35), (some (33, true)), .f (.load false 1 (.t 34))⟩,
    .run ⟨(some 36), (some (33, true)), .f (.len .str (.t 35))⟩,
    .run ⟨(some 37), (some (33, true)), .f (.bin .leq (.t 36) (.c (.int .i64 512)))⟩,
    fi 38 (.pick (.t 33) (.t 37) (.c (.bool false))),
    fi 2 (.mv (.t 38))])
   .ret)
def b_match_Form : Cd := (.seq (.reg [] [ei 1 (.box (.t 0)),
    fi 2 (.mv (.c (.bool false)))])
   (.seq (.seq (.reg [] [fi 4 (.fieldAddr 0 (.t 1)),
    fi 5 (.load false 1 (.t 4)),
    fi 6 (.len .str (.t 5)),
    fi 7 (.mv (.c (.int .i64 0)))])
   (.blk 0 (.loop l_match_Form_0)))
   s_match_Form_0))
theorem k_match_Form : chkFn Tryz.prog n_match_Form ⟨b_match_Form, [.tmp 2], 39⟩ = true := by kernel_rfl
/-- fascine/fascineref07.Form -/
abbrev n_r07_Form : Nat := 44
def l_r07_Form_0 : Cd := (.seq (.seq (.reg [] [fi 20 (.mv (.t 3)),
    fi 21 (.fieldAddr 0 (.t 1)),
    fi 22 (.load false 1 (.t 21)),
    fi 23 (.len .str (.t 22)),
    fi 24 (.bin .lss (.t 20) (.t 23))])
   (.ite (.t 24)
   .skip
   (.exit 0)))
   (.seq (.blk 1 (.seq (.reg [] [fi 27 (.fieldAddr 0 (.t 1)),
    fi 28 (.load false 1 (.t 27)),
    fi 29 (.mv (.t 3)),
    fi 30 (.indexS (.t 28) (.t 29)),
    fi 31 (.bin .lss (.t 30) (.c (.int .u8 33))),
    fi 32 (.mv (.t 31)),
    .run ⟨(some 33), (some (32, false)), .f (.fieldAddr 0 (.t 1))⟩,
    .run ⟨(some 34), (some (32, false)), .f (.load false 1 (.t 33))⟩,
    .run ⟨(some 35), (some (32, false)), .f (.mv (.t 3))⟩,
    .run ⟨(some 36), (some (32, false)), .f (.indexS (.t 34) (.t 35))⟩,
    .run ⟨(some 37), (some (32, false)), .f (.bin .gtr (.t 36) (.c (.int .u8 126)))⟩,
    fi 38 (.pick (.t 32) (.c (.bool true)) (.t 37))])
   (.ite (.t 38)
   (.seq (.reg [] [fi 2 (.mv (.c (.bool false)))])
   .ret)
   .skip)))
   (.reg [] [fi 25 (.mv (.t 3)),
    fi 26 (.bin .add (.t 25) (.c (.int .i64 1))),
    fi 3 (.mv (.t 26))])))
def b_r07_Form : Cd := (.seq (.reg [] [ei 1 (.box (.t 0)),
    fi 2 (.mv (.c (.bool false)))])
   (.seq (.seq (.reg [] [fi 4 (.fieldAddr 0 (.t 1)),
    fi 5 (.load false 1 (.t 4)),
    fi 6 (.len .str (.t 5)),
    fi 7 (.bin .lss (.t 6) (.c (.int .i64 1))),
    fi 8 (.mv (.t 7)),
    .run ⟨(some 9), (some (8, false)), .f (.fieldAddr 0 (.t 1))⟩,
    .run ⟨(some 10), (some (8, false)), .f (.load false 1 (.t 9))⟩,
    .run ⟨(some 11), (some (8, false)), .f (.len .str (.t 10))⟩,
    .run ⟨(some 12), (some (8, false)), .f (.bin .gtr (.t 11) (.c (.int .i64 32)))⟩,
    fi 13 (.pick (.t 8) (.c (.bool true)) (.t 12)),
    fi 14 (.mv (.t 13)),
    .run ⟨(some 15), (some (14, false)), .f (.fieldAddr 2 (.t 1))⟩,
    .run ⟨(some 16), (some (14, false)), .f (.load false 1 (.t 15))⟩,
    .run ⟨(some 17), (some (14, false)), .f (.len .str (.t 16))⟩,
    .run ⟨(some 18), (some (14, false)), .f (.bin .gtr (.t 17) (.c (.int .i64 512)))⟩,
    fi 19 (.pick (.t 14) (.c (.bool true)) (.t 18))])
   (.ite (.t 19)
   (.seq (.reg [] [fi 2 (.mv (.c (.bool false)))])
   .ret)
   .skip))
   (.seq (.seq (.reg [] [fi 3 (.mv (.c (.int .i64 0)))])
   (.blk 0 (.loop l_r07_Form_0)))
   (.seq (.reg [] [fi 2 (.mv (.c (.bool true)))])
   .ret))))
theorem k_r07_Form : chkFn Tryz.prog n_r07_Form ⟨b_r07_Form, [.tmp 2], 39⟩ = true := by kernel_rfl
/-- (*fascine/fascineref16.Copy).Adopt -/
abbrev n_r16_Copy_Adopt : Nat := 27
def l_r16_Copy_Adopt_0 : Cd := (.seq (.seq (.reg [] [fi 14 (.mv (.t 7)),
    fi 15 (.mv (.t 2)),
    fi 16 (.len .sl (.t 15)),
    fi 17 (.bin .lss (.t 14) (.t 16))])
   (.ite (.t 17)
   .skip
   (.exit 0)))
   (.seq (.blk 1 (.seq (.reg [] [fi 20 (.mv (.t 2)),
    fi 21 (.mv (.t 7)),
    fi 22 (.indexAddr 4 (.t 20) (.t 21)),
    fi 23 (.fieldAddr 1 (.t 22)),
    fi 24 (.load true 3 (.t 23)),
    ei 25 (.call 44 [(.t 24)]),
    fi 26 (.un .not (.t 25))])
   (.ite (.t 26)
   (.seq (.reg [] [fi 6 (.mv (.c (.int .i64 3)))])
   .ret)
   .skip)))
   (.reg [] [fi 18 (.mv (.t 7)),
    fi 19 (.bin .add (.t 18) (.c (.int .i64 1))),
    fi 7 (.mv (.t 19))])))
def s_r16_Copy_Adopt_0 : Cd := (.seq (.seq (.reg [] [fi 27 (.mv (.t 1)),
    fi 28 (.mv (.t 0)),
    fi 29 (.nilCheck (.t 28)),
    fi 30 (.fieldAddr 2 (.t 29)),
    fi 31 (.load false 1 (.t 30)),
    fi 32 (.bin .eql (.t 27) (.t 31)),
    fi 33 (.mv (.t 32)),
    .run ⟨(some 34), (some (33, true)), .f (.mv (.t 2))⟩,
    .run ⟨(some 35), (some (33, true)), .f (.len .sl (.t 34))⟩,
    .run ⟨(some 36), (some (33, true)), .f (.mv (.t 0))⟩,
    .run ⟨(some 37), (some (33, true)), .f (.nilCheck (.t 36))⟩,
    .run ⟨(some 38), (some (33, true)), .f (.fieldAddr 3 (.t 37))⟩,
    .run ⟨(some 39), (some (33, true)), .f (.load false 1 (.t 38))⟩,
    .run ⟨(some 40), (some (33, true)), .f (.len .sl (.t 39))⟩,
    .run ⟨(some 41), (some (33, true)), .f (.bin .leq (.t 35) (.t 40))⟩,
    fi 42 (.pick (.t 33) (.t 41) (.c (.bool false)))])
   (.ite (.t 42)
   (.seq (.reg [] [fi 6 (.mv (.c (.int .i64 0)))])
   .ret)
   .skip))
   (.seq (.reg [] [fi 43 (.mv (.t 0)),
    fi 44 (.mv (.t 1)),
    fi 45 (.nilCheck (.t 43)),
    fi 46 (.fieldAddr 0 (.t 45)),
    st (.store 1 (.t 46) (.t 44))])
   (.seq (.reg [] [fi 47 (.mv (.t 0)),
    fi 48 (.mv (.t 1)),
    fi 49 (.nilCheck (.t 47)),
    fi 50 (.fieldAddr 2 (.t 49)),
    st (.store 1 (.t 50) (.t 48))])
   (.seq (.reg [] [fi 51 (.mv (.t 0)),
    fi 52 (.nilCheck (.t 51)),
    fi 53 (.fieldAddr 3 (.t 52)),
    st (.store 1 (.t 53) (.c (.sl [] 0 4 .nil)))])
   (.seq (.reg [] [fi 54 (.mv (.t 0)),
    fi 55 (.mv (.t 0)),
    fi 56 (.nilCheck (.t 55)),
    fi 57 (.fieldAddr 3 (.t 56)),
    fi 58 (.load false 1 (.t 57)),
    fi 59 (.mv (.t 2)),
    ei 60 (.append 4 48 false (.t 58) (.t 59)),
    fi 61 (.nilCheck (.t 54)),
    fi 62 (.fieldAddr 3 (.t 61)),
    st (.store 1 (.t 62) (.t 60))])
   (.seq (.reg [] [fi 6 (.mv (.c (.int .i64 0)))])
   .ret))))))
def b_r16_Copy_Adopt : Cd := (.seq (.reg [] [fi 6 (.mv (.c (.int .i64 0)))])
   (.seq (.seq (.reg [] [fi 8 (.mv (.t 1)),
    fi 9 (.mv (.t 0)),
    fi 10 (.nilCheck (.t 9)),
    fi 11 (.fieldAddr 0 (.t 10)),
    fi 12 (.load false 1 (.t 11)),
    fi 13 (.bin .lss (.t 8) (.t 12))])
   (.ite (.t 13)
   (.seq (.reg [] [fi 6 (.mv (.c (.int .i64 12)))])
   .ret)
   .skip))
   (.seq (.seq (.reg [] [fi 7 (.mv (.c (.int .i64 0)))])
   (.blk 0 (.loop l_r16_Copy_Adopt_0)))
   s_r16_Copy_Adopt_0)))
theorem k_r16_Copy_Adopt : chkFn Tryz.prog n_r16_Copy_Adopt ⟨b_r16_Copy_Adopt, [.tmp 6], 63⟩ = true := by kernel_rfl
/-- (*fascine/fascineref16.Copy).Append -/
abbrev n_r16_Copy_Append : Nat := 25
def b_r16_Copy_Append : Cd := (.seq (.reg [] [ei 3 (.box (.t 1)),
    fi 4 (.mv (.c (.int .i64 0)))])
   (.seq (.seq (.reg [] [fi 5 (.fieldAddr 1 (.t 3)),
    fi 6 (.load true 3 (.t 5)),
    ei 7 (.call 44 [(.t 6)]),
    fi 8 (.un .not (.t 7))])
   (.ite (.t 8)
   (.seq (.reg [] [fi 4 (.mv (.c (.int .i64 3)))])
   .ret)
   .skip))
   (.seq (.seq (.reg [0, 1, 2, 3, 4, 5, 6, 7, 8, 9, 10, 11, 12, 13, 14, 15] [fi 9 (.fieldAddr 0 (.t 3)),
    fi 10 (.load false 1 (.t 9)),
    fi 11 (.mv (.t 0)),
    fi 12 (.nilCheck (.t 11)),
    fi 13 (.fieldAddr 0 (.t 12)),
    fi 14 (.load false 1 (.t 13)),
    fi 15 (.bin .neq (.t 10) (.t 14)),
    fi 16 (.mv (.t 15)),
    .run ⟨(some 17), (some (16, false)), .f (.fieldAddr 0 (.t 3))⟩,
    .run ⟨(some 18), (some (16, false)), .f (.load false 1 (.t 17))⟩,
    .run ⟨(some 19), (some (16, false)), .f (.mv (.t 0))⟩,
    .run ⟨(some 20), (some (16, false)), .f (.nilCheck (.t 19))⟩,
    .run ⟨(some 21), (some (16, false)), .f (.fieldAddr 2 (.t 20))⟩,
    .run ⟨(some 22), (some (16, false)), .f (.load false 1 (.t 21))⟩,
    .run ⟨(some 23), (some (16, false)), .f (.bin .neq (.t 18) (.t 22))⟩,
    fi 24 (.pick (.t 16) (.c (.bool true)) (.t 23))])
   (.ite (.t 24)
   (.seq (.reg [] [fi 4 (.mv (.c (.int .i64 12)))])
   .ret)
   .skip))
   (.seq (.reg [0, 1, 2, 3, 4, 5, 6, 4, 7, 8, 9, 10] [fi 25 (.mv (.t 0)),
    fi 26 (.mv (.t 0)),
    fi 27 (.nilCheck (.t 26)),
    fi 28 (.fieldAddr 3 (.t 27)),
    fi 29 (.load false 1 (.t 28)),
    fi 30 (.load true 4 (.t 3)),
    ei 31 (.buildSlice 1 4 0 [(.int .u64 0), (.str (mkS [])), (.int .i64 0), (.str (mkS []))] [(0, 4, (.t 30))]),
    .chk 29 none (.load false 1 (.t 28)),
    ei 32 (.append 4 48 false (.t 29) (.t 31)),
    fi 33 (.nilCheck (.t 25)),
    fi 34 (.fieldAddr 3 (.t 33)),
    st (.store 1 (.t 34) (.t 32))])
   (.seq (.reg [] [fi 4 (.mv (.c (.int .i64 0)))])
   .ret)))))
theorem k_r16_Copy_Append : chkFn Tryz.prog n_r16_Copy_Append ⟨b_r16_Copy_Append, [.tmp 4], 35⟩ = true := by kernel_rfl
/-- (*fascine/fascineref16.Copy).Hear -/
abbrev n_r16_Copy_Hear : Nat := 23
def b_r16_Copy_Hear : Cd := (.seq (.reg [] [fi 4 (.mv (.c (.int .i64 0)))])
   (.seq (.seq (.reg [] [fi 5 (.mv (.t 1)),
    fi 6 (.mv (.t 0)),
    fi 7 (.nilCheck (.t 6)),
    fi 8 (.fieldAddr 0 (.t 7)),
    fi 9 (.load false 1 (.t 8)),
    fi 10 (.bin .lss (.t 5) (.t 9))])
   (.ite (.t 10)
   (.seq (.reg [] [fi 4 (.mv (.c (.int .i64 12)))])
   .ret)
   .skip))
   (.seq (.reg [] [fi 11 (.mv (.t 0)),
    fi 12 (.mv (.t 1)),
    fi 13 (.nilCheck (.t 11)),
    fi 14 (.fieldAddr 0 (.t 13)),
    st (.store 1 (.t 14) (.t 12))])
   (.seq (.reg [] [fi 4 (.mv (.c (.int .i64 0)))])
   .ret))))
theorem k_r16_Copy_Hear : chkFn Tryz.prog n_r16_Copy_Hear ⟨b_r16_Copy_Hear, [.tmp 4], 15⟩ = true := by kernel_rfl
/-- (*fascine/fascineref16.Copy).Serve -/
abbrev n_r16_Copy_Serve : Nat := 24
def b_r16_Copy_Serve : Cd := (.seq (.reg [] [fi 4 (.mv (.c (.int .i64 0)))])
   (.seq (.seq (.reg [] [fi 5 (.mv (.t 1)),
    fi 6 (.mv (.t 0)),
    fi 7 (.nilCheck (.t 6)),
    fi 8 (.fieldAddr 0 (.t 7)),
    fi 9 (.load false 1 (.t 8)),
    fi 10 (.bin .lss (.t 5) (.t 9)),
    fi 11 (.mv (.t 10)),
    .run ⟨(some 12), (some (11, false)), .f (.mv (.t 1))⟩,
    .run ⟨(some 13), (some (11, false)), .f (.mv (.t 0))⟩,
    .run ⟨(some 14), (some (11, false)), .f (.nilCheck (.t 13))⟩,
    .run ⟨(some 15), (some (11, false)), .f (.fieldAddr 1 (.t 14))⟩,
    .run ⟨(some 16), (some (11, false)), .f (.load false 1 (.t 15))⟩,
    .run ⟨(some 17), (some (11, false)), .f (.bin .leq (.t 12) (.t 16))⟩,
    fi 18 (.pick (.t 11) (.c (.bool true)) (.t 17))])
   (.ite (.t 18)
   (.seq (.reg [] [fi 4 (.mv (.c (.int .i64 12)))])
   .ret)
   .skip))
   (.seq (.reg [] [fi 19 (.mv (.t 0)),
    fi 20 (.mv (.t 1)),
    fi 21 (.nilCheck (.t 19)),
    fi 22 (.fieldAddr 0 (.t 21)),
    st (.store 1 (.t 22) (.t 20))])
   (.seq (.reg [] [fi 23 (.mv (.t 0)),
    fi 24 (.mv (.t 1)),
    fi 25 (.nilCheck (.t 23)),
    fi 26 (.fieldAddr 1 (.t 25)),
    st (.store 1 (.t 26) (.t 24))])
   (.seq (.reg [] [fi 27 (.mv (.t 0)),
    fi 28 (.mv (.t 1)),
    fi 29 (.nilCheck (.t 27)),
    fi 30 (.fieldAddr 2 (.t 29)),
    st (.store 1 (.t 30) (.t 28))])
   (.seq (.reg [] [fi 4 (.mv (.c (.int .i64 0)))])
   .ret))))))
theorem k_r16_Copy_Serve : chkFn Tryz.prog n_r16_Copy_Serve ⟨b_r16_Copy_Serve, [.tmp 4], 31⟩ = true := by kernel_rfl
/-- fascine/fascineref16.Same -/
abbrev n_r16_Same : Nat := 28
def l_r16_Same_0 : Cd := (.seq (.seq (.reg [] [fi 11 (.mv (.t 5)),
    fi 12 (.mv (.t 0)),
    fi 13 (.len .sl (.t 12)),
    fi 14 (.bin .lss (.t 11) (.t 13))])
   (.ite (.t 14)
   .skip
   (.exit 0)))
   (.seq (.blk 1 (.seq (.reg [0, 1, 2, 3, 4, 5, 6, 7, 8] [fi 17 (.mv (.t 0)),
    fi 18 (.mv (.t 5)),
    fi 19 (.indexAddr 4 (.t 17) (.t 18)),
    fi 20 (.load true 4 (.t 19)),
    fi 21 (.mv (.t 1)),
    fi 22 (.mv (.t 5)),
    fi 23 (.indexAddr 4 (.t 21) (.t 22)),
    fi 24 (.load true 4 (.t 23)),
    fi 25 (.eqA true [.int, .str, .int, .str] (.t 20) (.t 24))])
   (.ite (.t 25)
   (.seq (.reg [] [fi 4 (.mv (.c (.bool false)))])
   .ret)
   .skip)))
   (.reg [] [fi 15 (.mv (.t 5)),
    fi 16 (.bin .add (.t 15) (.c (.int .i64 1))),
    fi 5 (.mv (.t 16))])))
def b_r16_Same : Cd := (.seq (.reg [] [fi 4 (.mv (.c (.bool false)))])
   (.seq (.seq (.reg [] [fi 6 (.mv (.t 0)),
    fi 7 (.len .sl (.t 6)),
    fi 8 (.mv (.t 1)),
    fi 9 (.len .sl (.t 8)),
    fi 10 (.bin .neq (.t 7) (.t 9))])
   (.ite (.t 10)
   (.seq (.reg [] [fi 4 (.mv (.c (.bool false)))])
   .ret)
   .skip))
   (.seq (.seq (.reg [] [fi 5 (.mv (.c (.int .i64 0)))])
   (.blk 0 (.loop l_r16_Same_0)))
   (.seq (.reg [] [fi 4 (.mv (.c (.bool true)))])
   .ret))))
theorem k_r16_Same : chkFn Tryz.prog n_r16_Same ⟨b_r16_Same, [.tmp 4], 26⟩ = true := by kernel_rfl
/-- strconv.Itoa -/
abbrev n_strconv_Itoa : Nat := 17
def b_strconv_Itoa : Cd := (.seq (.reg [] [fi 2 (.mv (.c (.str (mkS []))))])
   (.seq (.reg [] [fi 3 (.mv (.t 0)),
    ei 4 (.call 39 [(.t 3)]),
    fi 2 (.mv (.t 4))])
   .ret))
theorem k_strconv_Itoa : chkFn Tryz.prog n_strconv_Itoa ⟨b_strconv_Itoa, [.tmp 2], 5⟩ = true := by kernel_rfl
end Go.VM
