/-
  The codes of functions, as the value machine has them, and that they stand for the model's (printed by a program, wip/gen).
-/
import Derived.Test.YtegaflmefmlpgaaGreatDoorDCodes
import Derived.Test.YtegaflmefmlpgaaGreatDoorProg
import Derived.KernelRfl
set_option linter.unusedVariables false
set_option maxRecDepth 100000
namespace Go.VM
open Go Go.Proofs

/-- fascine/pack.Frame -/
abbrev n_pack_Frame : Nat := 51
def b_pack_Frame : Cd := (.seq (.reg [] [fi 2 (.mv (.c (.sl [] 0 1 .nil))),
    fi 3 (.mv (.c (.int .i64 0)))])
   (.seq (.seq (.reg [] [fi 5 (.mv (.t 0)),
    fi 6 (.len .sl (.t 5)),
    fi 7 (.bin .gtr (.t 6) (.c (.int .i64 65535)))])
   (.ite (.t 7)
   (.seq (.reg [] [fi 2 (.mv (.c (.sl [] 0 1 .nil))),
    fi 3 (.mv (.c (.int .i64 2)))])
   .ret)
   .skip))
   (.seq (.reg [] [ei 8 (.buildSlice 1 1 0 [(.int .u8 0)] [(0, 1, (.c (.int .u8 241)))]),
    fi 9 (.mv (.t 0)),
    fi 10 (.len .sl (.t 9)),
    fi 11 (.conv (.int .u64) (.t 10)),
    ei 12 (.call 48 [(.t 11)]),
    ei 13 (.append 1 1 false (.t 8) (.t 12)),
    fi 4 (.mv (.t 13))])
   (.seq (.reg [] [fi 14 (.mv (.t 4)),
    fi 15 (.mv (.t 0)),
    ei 16 (.call 69 [(.t 15)]),
    ei 17 (.call 68 [(.t 16)]),
    ei 18 (.append 1 1 false (.t 14) (.t 17)),
    fi 4 (.mv (.t 18))])
   (.seq (.reg [] [fi 19 (.mv (.t 4)),
    fi 20 (.mv (.t 0)),
    ei 21 (.append 1 1 false (.t 19) (.t 20)),
    fi 4 (.mv (.t 21))])
   (.seq (.reg [] [fi 22 (.mv (.t 4)),
    ei 23 (.buildSlice 1 1 0 [(.int .u8 0)] [(0, 1, (.c (.int .u8 31)))]),
    ei 24 (.append 1 1 false (.t 22) (.t 23)),
    fi 2 (.mv (.t 24)),
    fi 3 (.mv (.c (.int .i64 0)))])
   .ret))))))
theorem k_pack_Frame : chkFn Tryz.prog n_pack_Frame ⟨b_pack_Frame, [.tmp 2, .tmp 3], 25⟩ = true := by kernel_rfl
/-- fascine/pack.ReadFrame -/
abbrev n_pack_ReadFrame : Nat := 57
def b_pack_ReadFrame : Cd := (.seq (.reg [] [fi 4 (.mv (.c (.sl [] 0 1 .nil))),
    fi 5 (.mv (.c (.int .i64 0))),
    fi 6 (.mv (.c (.int .i64 0)))])
   (.seq (.seq (.reg [] [fi 11 (.mv (.t 1)),
    fi 12 (.bin .lss (.t 11) (.c (.int .i64 0))),
    fi 13 (.mv (.t 12)),
    .run ⟨(some 14), (some (13, false)), .f (.mv (.t 1))⟩,
    .run ⟨(some 15), (some (13, false)), .f (.mv (.t 0))⟩,
    .run ⟨(some 16), (some (13, false)), .f (.len .sl (.t 15))⟩,
    .run ⟨(some 17), (some (13, false)), .f (.bin .gtr (.t 14) (.t 16))⟩,
    fi 18 (.pick (.t 13) (.c (.bool true)) (.t 17))])
   (.ite (.t 18)
   (.seq (.reg [] [fi 4 (.mv (.c (.sl [] 0 1 .nil))),
    fi 5 (.mv (.c (.int .i64 0))),
    fi 6 (.mv (.c (.int .i64 1)))])
   .ret)
   .skip))
   (.seq (.seq (.reg [] [fi 19 (.mv (.t 1)),
    fi 20 (.mv (.t 0)),
    fi 21 (.len .sl (.t 20)),
    fi 22 (.bin .eql (.t 19) (.t 21))])
   (.ite (.t 22)
   (.seq (.reg [] [fi 4 (.mv (.c (.sl [] 0 1 .nil))),
    fi 5 (.mv (.c (.int .i64 0))),
    fi 6 (.mv (.c (.int .i64 8)))])
   .ret)
   .skip))
   (.seq (.reg [] [fi 24 (.mv (.t 0)),
    fi 25 (.mv (.t 1)),
    fi 26 (.bin .add (.t 25) (.c (.int .i64 1))),
    ei 27 (.call 41 [(.t 24), (.t 26)]),
    fi 23 (.mv (.t 27)),
    fi 28 (.extract (.t 23) 0),
    fi 29 (.extract (.t 23) 1),
    fi 30 (.extract (.t 23) 2),
    fi 7 (.mv (.t 28)),
    fi 8 (.mv (.t 29)),
    fi 9 (.mv (.t 30))])
   (.seq (.seq (.reg [] [fi 31 (.mv (.t 0)),
    fi 32 (.mv (.t 1)),
    fi 33 (.indexAddr 1 (.t 31) (.t 32)),
    fi 34 (.load false 1 (.t 33)),
    fi 35 (.bin .neq (.t 34) (.c (.int .u8 241))),
    fi 36 (.mv (.t 35)),
    .run ⟨(some 37), (some (36, false)), .f (.mv (.t 9))⟩,
    .run ⟨(some 38), (some (36, false)), .f (.bin .neq (.t 37) (.c (.int .i64 0)))⟩,
    fi 39 (.pick (.t 36) (.c (.bool true)) (.t 38)),
    fi 40 (.mv (.t 39)),
    .run ⟨(some 41), (some (40, false)), .f (.mv (.t 7))⟩,
    .run ⟨(some 42), (some (40, false)), .f (.bin .gtr (.t 41) (.c (.int .u64 65535)))⟩,
    fi 43 (.pick (.t 40) (.c (.bool true)) (.t 42)),
    fi 44 (.mv (.t 43)),
    .run ⟨(some 45), (some (44, false)), .f (.mv (.t 7))⟩,
    .run ⟨(some 46), (some (44, false)), .f (.conv (.int .i64) (.t 45))⟩,
    .run ⟨(some 47), (some (44, false)), .f (.mv (.t 0))⟩,
    .run ⟨(some 48), (some (44, false)), .f (.len .sl (.t 47))⟩,
    .run ⟨(some 49), (some (44, false)), .f (.mv (.t 8))⟩,
    .run ⟨(some 50), (some (44, false)), .f (.bin .sub (.t 48) (.t 49))⟩,
    .run ⟨(some 51), (some (44, false)), .f (.bin .sub (.t 50) (.c (.int .i64 5)))⟩,
    .run ⟨(some 52), (some (44, false)), .f (.bin .gtr (.t 46) (.t 51))⟩,
    fi 53 (.pick (.t 44) (.c (.bool true)) (.t 52)),
    fi 54 (.mv (.t 53)),
    .run ⟨(some 55), (some (54, false)), .f (.mv (.t 0))⟩,
    .run ⟨(some 56), (some (54, false)), .f (.mv (.t 8))⟩,
    .run ⟨(some 57), (some (54, false)), .f (.bin .add (.t 56) (.c (.int .i64 4)))⟩,
    .run ⟨(some 58), (some (54, false)), .f (.mv (.t 7))⟩,
    .run ⟨(some 59), (some (54, false)), .f (.conv (.int .i64) (.t 58))⟩,
    .run ⟨(some 60), (some (54, false)), .f (.bin .add (.t 57) (.t 59))⟩,
    .run ⟨(some 61), (some (54, false)), .f (.indexAddr 1 (.t 55) (.t 60))⟩,
    .run ⟨(some 62), (some (54, false)), .f (.load false 1 (.t 61))⟩,
    .run ⟨(some 63), (some (54, false)), .f (.bin .neq (.t 62) (.c (.int .u8 31)))⟩,
    fi 64 (.pick (.t 54) (.c (.bool true)) (.t 63))])
   (.ite (.t 64)
   (.seq (.reg [] [fi 4 (.mv (.c (.sl [] 0 1 .nil))),
    fi 5 (.mv (.c (.int .i64 0))),
    fi 6 (.mv (.c (.int .i64 3)))])
   .ret)
   .skip))
   (.seq (.reg [] [fi 65 (.mv (.t 0)),
    fi 66 (.mv (.t 8)),
    fi 67 (.bin .add (.t 66) (.c (.int .i64 4))),
    fi 68 (.mv (.t 8)),
    fi 69 (.bin .add (.t 68) (.c (.int .i64 4))),
    fi 70 (.mv (.t 7)),
    fi 71 (.conv (.int .i64) (.t 70)),
    fi 72 (.bin .add (.t 69) (.t 71)),
    fi 73 (.slice 1 (.t 65) (some (.t 67)) (some (.t 72)) none),
    ei 74 (.append 1 1 false (.c (.sl [] 0 1 .nil)) (.t 73)),
    fi 10 (.mv (.t 74))])
   (.seq (.seq (.reg [0, 1, 2, 3, 4, 5, 6, 7, 5, 8, 5, 9, 10] [fi 75 (.mv (.t 0)),
    fi 76 (.mv (.t 8)),
    fi 77 (.mv (.t 8)),
    fi 78 (.bin .add (.t 77) (.c (.int .i64 4))),
    fi 79 (.slice 1 (.t 75) (some (.t 76)) (some (.t 78)) none),
    fi 80 (.conv .bytesStr (.t 79)),
    fi 81 (.mv (.t 10)),
    ei 82 (.call 69 [(.t 81)]),
    .chk 80 none (.conv .bytesStr (.t 79)),
    ei 83 (.call 68 [(.t 82)]),
    .chk 80 none (.conv .bytesStr (.t 79)),
    fi 84 (.conv .bytesStr (.t 83)),
    fi 85 (.bin .neq (.t 80) (.t 84))])
   (.ite (.t 85)
   (.seq (.reg [] [fi 4 (.mv (.c (.sl [] 0 1 .nil))),
    fi 5 (.mv (.c (.int .i64 0))),
    fi 6 (.mv (.c (.int .i64 5)))])
   .ret)
   .skip))
   (.seq (.reg [] [fi 86 (.mv (.t 10)),
    fi 87 (.mv (.t 8)),
    fi 88 (.bin .add (.t 87) (.c (.int .i64 5))),
    fi 89 (.mv (.t 7)),
    fi 90 (.conv (.int .i64) (.t 89)),
    fi 91 (.bin .add (.t 88) (.t 90)),
    fi 4 (.mv (.t 86)),
    fi 5 (.mv (.t 91)),
    fi 6 (.mv (.c (.int .i64 0)))])
   .ret))))))))
theorem k_pack_ReadFrame : chkFn Tryz.prog n_pack_ReadFrame ⟨b_pack_ReadFrame, [.tmp 4, .tmp 5, .tmp 6], 92⟩ = true := by kernel_rfl
/-- fascine/pack.ReadText -/
abbrev n_pack_ReadText : Nat := 63
def k_pack_ReadText_0 : Cd := (.seq (.reg [] [fi 20 (.mv (.t 11)),
    fi 21 (.bin .neq (.t 20) (.c (.int .i64 0))),
    fi 19 (.mv (.t 21))])
   (.ite (.t 19)
   (.seq (.reg [] [fi 22 (.mv (.t 11)),
    fi 6 (.mv (.c (.str (mkS [])))),
    fi 7 (.mv (.c (.int .i64 0))),
    fi 8 (.mv (.t 22))])
   .ret)
   (.seq (.reg [] [fi 24 (.mv (.t 9)),
    fi 25 (.mv (.t 0)),
    fi 26 (.len .sl (.t 25)),
    fi 27 (.mv (.t 10)),
    fi 28 (.bin .sub (.t 26) (.t 27)),
    fi 29 (.conv (.int .u64) (.t 28)),
    fi 30 (.bin .gtr (.t 24) (.t 29)),
    fi 23 (.mv (.t 30))])
   (.ite (.t 23)
   (.seq (.reg [] [fi 6 (.mv (.c (.str (mkS [])))),
    fi 7 (.mv (.c (.int .i64 0))),
    fi 8 (.mv (.c (.int .i64 3)))])
   .ret)
   (.seq (.reg [] [fi 32 (.mv (.t 2)),
    fi 33 (.bin .lss (.t 32) (.c (.int .i64 0))),
    fi 34 (.mv (.t 33)),
    .run ⟨(some 35), (some (34, false)), .f (.mv (.t 9))⟩,
    .run ⟨(some 36), (some (34, false)), .f (.mv (.t 2))⟩,
    .run ⟨(some 37), (some (34, false)), .f (.conv (.int .u64) (.t 36))⟩,
    .run ⟨(some 38), (some (34, false)), .f (.bin .gtr (.t 35) (.t 37))⟩,
    fi 39 (.pick (.t 34) (.c (.bool true)) (.t 38)),
    fi 31 (.mv (.t 39))])
   (.ite (.t 31)
   (.seq (.reg [] [fi 6 (.mv (.c (.str (mkS [])))),
    fi 7 (.mv (.c (.int .i64 0))),
    fi 8 (.mv (.c (.int .i64 2)))])
   .ret)
   .skip))))))
def s_pack_ReadText_0 : Cd := (.seq (.reg [] [fi 40 (.mv (.t 0)),
    fi 41 (.mv (.t 10)),
    fi 42 (.mv (.t 10)),
    fi 43 (.mv (.t 9)),
    fi 44 (.conv (.int .i64) (.t 43)),
    fi 45 (.bin .add (.t 42) (.t 44)),
    fi 46 (.slice 1 (.t 40) (some (.t 41)) (some (.t 45)) none),
    fi 47 (.conv .bytesStr (.t 46)),
    fi 48 (.mv (.t 10)),
    fi 49 (.mv (.t 9)),
    fi 50 (.conv (.int .i64) (.t 49)),
    fi 51 (.bin .add (.t 48) (.t 50)),
    fi 6 (.mv (.t 47)),
    fi 7 (.mv (.t 51)),
    fi 8 (.mv (.c (.int .i64 0)))])
   .ret)
def b_pack_ReadText : Cd := (.seq (.reg [] [fi 6 (.mv (.c (.str (mkS [])))),
    fi 7 (.mv (.c (.int .i64 0))),
    fi 8 (.mv (.c (.int .i64 0)))])
   (.seq (.reg [] [fi 13 (.mv (.t 0)),
    fi 14 (.mv (.t 1)),
    ei 15 (.call 41 [(.t 13), (.t 14)]),
    fi 12 (.mv (.t 15)),
    fi 16 (.extract (.t 12) 0),
    fi 17 (.extract (.t 12) 1),
    fi 18 (.extract (.t 12) 2),
    fi 9 (.mv (.t 16)),
    fi 10 (.mv (.t 17)),
    fi 11 (.mv (.t 18))])
   (.seq (.blk 0 k_pack_ReadText_0)
   s_pack_ReadText_0)))
theorem k_pack_ReadText : chkFn Tryz.prog n_pack_ReadText ⟨b_pack_ReadText, [.tmp 6, .tmp 7, .tmp 8], 52⟩ = true := by kernel_rfl
/-- fascine/pack.ReadUvarint -/
abbrev n_pack_ReadUvarint : Nat := 41
def k_pack_ReadUvarint_0 : Cd := (.seq (.reg [] [fi 26 (.mv (.t 8)),
    fi 27 (.mv (.t 1)),
    fi 28 (.bin .sub (.t 26) (.t 27)),
    fi 9 (.mv (.t 28))])
   (.seq (.reg [] [fi 29 (.mv (.t 0)),
    fi 30 (.mv (.t 8)),
    fi 31 (.indexAddr 1 (.t 29) (.t 30)),
    fi 32 (.load false 1 (.t 31)),
    fi 10 (.mv (.t 32))])
   (.seq (.seq (.reg [] [fi 33 (.mv (.t 9)),
    fi 34 (.bin .eql (.t 33) (.c (.int .i64 9))),
    fi 35 (.mv (.t 34)),
    .run ⟨(some 36), (some (35, true)), .f (.mv (.t 10))⟩,
    .run ⟨(some 37), (some (35, true)), .f (.bin .gtr (.t 36) (.c (.int .u8 1)))⟩,
    fi 38 (.pick (.t 35) (.t 37) (.c (.bool false))),
    fi 39 (.mv (.t 38)),
    .run ⟨(some 40), (some (39, false)), .f (.mv (.t 10))⟩,
    .run ⟨(some 41), (some (39, false)), .f (.bin .eql (.t 40) (.c (.int .u8 0)))⟩,
    .run ⟨(some 42), (some (39, false)), .f (.mv (.t 41))⟩,
    .run ⟨(some 43), (some (42, true)), .f (.mv (.t 9))⟩,
    .run ⟨(some 44), (some (42, true)), .f (.bin .gtr (.t 43) (.c (.int .i64 0)))⟩,
    .run ⟨(some 45), (some (39, false)), .f (.pick (.t 42) (.t 44) (.c (.bool false)))⟩,
    fi 46 (.pick (.t 39) (.c (.bool true)) (.t 45))])
   (.ite (.t 46)
   (.seq (.reg [] [fi 4 (.mv (.c (.int .u64 0))),
    fi 5 (.mv (.c (.int .i64 0))),
    fi 6 (.mv (.c (.int .i64 3)))])
   .ret)
   .skip))
   (.seq (.reg [] [fi 47 (.mv (.t 7)),
    fi 48 (.mv (.t 10)),
    fi 49 (.bin .and (.t 48) (.c (.int .u8 127))),
    fi 50 (.conv (.int .u64) (.t 49)),
    fi 51 (.mv (.t 9)),
    fi 52 (.bin .mul (.c (.int .i64 7)) (.t 51)),
    fi 53 (.bin .shl (.t 50) (.t 52)),
    fi 54 (.bin .or (.t 47) (.t 53)),
    fi 7 (.mv (.t 54))])
   (.seq (.reg [] [fi 55 (.mv (.t 10)),
    fi 56 (.bin .lss (.t 55) (.c (.int .u8 128)))])
   (.ite (.t 56)
   (.seq (.reg [] [fi 57 (.mv (.t 7)),
    fi 58 (.mv (.t 8)),
    fi 59 (.bin .add (.t 58) (.c (.int .i64 1))),
    fi 4 (.mv (.t 57)),
    fi 5 (.mv (.t 59)),
    fi 6 (.mv (.c (.int .i64 0)))])
   .ret)
   .skip))))))
def l_pack_ReadUvarint_0 : Cd := (.seq (.seq (.reg [] [fi 20 (.mv (.t 8)),
    fi 21 (.mv (.t 0)),
    fi 22 (.len .sl (.t 21)),
    fi 23 (.bin .lss (.t 20) (.t 22))])
   (.ite (.t 23)
   .skip
   (.exit 0)))
   (.seq (.blk 1 k_pack_ReadUvarint_0)
   (.reg [] [fi 24 (.mv (.t 8)),
    fi 25 (.bin .add (.t 24) (.c (.int .i64 1))),
    fi 8 (.mv (.t 25))])))
def b_pack_ReadUvarint : Cd := (.seq (.reg [] [fi 4 (.mv (.c (.int .u64 0))),
    fi 5 (.mv (.c (.int .i64 0))),
    fi 6 (.mv (.c (.int .i64 0)))])
   (.seq (.seq (.reg [] [fi 11 (.mv (.t 1)),
    fi 12 (.bin .lss (.t 11) (.c (.int .i64 0))),
    fi 13 (.mv (.t 12)),
    .run ⟨(some 14), (some (13, false)), .f (.mv (.t 1))⟩,
    .run ⟨(some 15), (some (13, false)), .f (.mv (.t 0))⟩,
    .run ⟨(some 16), (some (13, false)), .f (.len .sl (.t 15))⟩,
    .run ⟨(some 17), (some (13, false)), .f (.bin .gtr (.t 14) (.t 16))⟩,
    fi 18 (.pick (.t 13) (.c (.bool true)) (.t 17))])
   (.ite (.t 18)
   (.seq (.reg [] [fi 4 (.mv (.c (.int .u64 0))),
    fi 5 (.mv (.c (.int .i64 0))),
    fi 6 (.mv (.c (.int .i64 1)))])
   .ret)
   .skip))
   (.seq (.reg [] [fi 7 (.mv (.c (.int .u64 0)))])
   (.seq (.seq (.reg [] [fi 19 (.mv (.t 1)),
    fi 8 (.mv (.t 19))])
   (.blk 0 (.loop l_pack_ReadUvarint_0)))
   (.seq (.reg [] [fi 4 (.mv (.c (.int .u64 0))),
    fi 5 (.mv (.c (.int .i64 0))),
    fi 6 (.mv (.c (.int .i64 3)))])
   .ret)))))
theorem k_pack_ReadUvarint : chkFn Tryz.prog n_pack_ReadUvarint ⟨b_pack_ReadUvarint, [.tmp 4, .tmp 5, .tmp 6], 60⟩ = true := by kernel_rfl
/-- fascine/pack.Sum -/
abbrev n_pack_Sum : Nat := 69
def l_pack_Sum_0 : Cd := (.seq (.reg [] [fi 17 (.bin .lss (.t 16) (.c (.int .i64 8)))])
   (.seq (.ite (.t 17)
   .skip
   (.exit 2))
   (.seq (.blk 3 (.seq (.reg [] [fi 18 (.mv (.t 3)),
    fi 19 (.bin .and (.t 18) (.c (.int .u32 1))),
    fi 20 (.bin .eql (.t 19) (.c (.int .u32 1)))])
   (.ite (.t 20)
   (.reg [] [fi 21 (.mv (.t 3)),
    fi 22 (.bin .shr (.t 21) (.c (.int .u64 1))),
    fi 23 (.bin .xor (.t 22) (.c (.int .u32 3988292384))),
    fi 3 (.mv (.t 23))])
   (.reg [] [fi 24 (.mv (.t 3)),
    fi 25 (.bin .shr (.t 24) (.c (.int .u64 1))),
    fi 3 (.mv (.t 25))]))))
   (.reg [] [fi 26 (.bin .add (.t 16) (.c (.int .i64 1))),
    fi 16 (.mv (.t 26))]))))
def l_pack_Sum_1 : Cd := (.seq (.reg [] [fi 9 (.bin .lss (.t 8) (.t 7))])
   (.seq (.ite (.t 9)
   .skip
   (.exit 0))
   (.seq (.blk 1 (.seq (.reg [] [fi 10 (.indexAddr 1 (.t 6) (.t 8)),
    fi 11 (.load false 1 (.t 10)),
    fi 5 (.mv (.t 11))])
   (.seq (.reg [] [fi 12 (.mv (.t 3)),
    fi 13 (.mv (.t 5)),
    fi 14 (.conv (.int .u32) (.t 13)),
    fi 15 (.bin .xor (.t 12) (.t 14)),
    fi 3 (.mv (.t 15))])
   (.seq (.reg [] [fi 16 (.mv (.c (.int .i64 0)))])
   (.blk 2 (.loop l_pack_Sum_0))))))
   (.reg [] [fi 27 (.bin .add (.t 8) (.c (.int .i64 1))),
    fi 8 (.mv (.t 27))]))))
def b_pack_Sum : Cd := (.seq (.reg [] [fi 2 (.mv (.c (.int .u32 0)))])
   (.seq (.reg [] [fi 3 (.mv (.c (.int .u32 4294967295)))])
   (.seq (.seq (.reg [] [fi 6 (.mv (.t 0)),
    fi 7 (.len .sl (.t 6)),
    fi 8 (.mv (.c (.int .i64 0)))])
   (.blk 0 (.loop l_pack_Sum_1)))
   (.seq (.reg [] [fi 28 (.mv (.t 3)),
    fi 29 (.un .xor (.t 28)),
    fi 2 (.mv (.t 29))])
   .ret))))
theorem k_pack_Sum : chkFn Tryz.prog n_pack_Sum ⟨b_pack_Sum, [.tmp 2], 30⟩ = true := by kernel_rfl
/-- fascine/pack.Text -/
abbrev n_pack_Text : Nat := 49
def b_pack_Text : Cd := (.seq (.reg [] [fi 2 (.mv (.c (.sl [] 0 1 .nil)))])
   (.seq (.reg [] [fi 3 (.mv (.t 0)),
    fi 4 (.len .str (.t 3)),
    fi 5 (.conv (.int .u64) (.t 4)),
    ei 6 (.call 48 [(.t 5)]),
    fi 7 (.mv (.t 0)),
    ei 8 (.append 1 1 false (.t 6) (.t 7)),
    fi 2 (.mv (.t 8))])
   .ret))
theorem k_pack_Text : chkFn Tryz.prog n_pack_Text ⟨b_pack_Text, [.tmp 2], 9⟩ = true := by kernel_rfl
/-- fascine/pack.Uvarint -/
abbrev n_pack_Uvarint : Nat := 48
def l_pack_Uvarint_0 : Cd := (.seq (.seq (.reg [] [fi 4 (.mv (.t 0)),
    fi 5 (.bin .geq (.t 4) (.c (.int .u64 128)))])
   (.ite (.t 5)
   .skip
   (.exit 0)))
   (.seq (.blk 1 (.reg [] [fi 8 (.mv (.t 3)),
    fi 9 (.mv (.t 0)),
    fi 10 (.conv (.int .u8) (.t 9)),
    fi 11 (.bin .or (.t 10) (.c (.int .u8 128))),
    ei 12 (.buildSlice 1 1 0 [(.int .u8 0)] [(0, 1, (.t 11))]),
    ei 13 (.append 1 1 false (.t 8) (.t 12)),
    fi 3 (.mv (.t 13))]))
   (.reg [] [fi 6 (.mv (.t 0)),
    fi 7 (.bin .shr (.t 6) (.c (.int .u64 7))),
    fi 0 (.mv (.t 7))])))
def b_pack_Uvarint : Cd := (.seq (.reg [] [fi 2 (.mv (.c (.sl [] 0 1 .nil)))])
   (.seq (.reg [] [fi 3 (.mv (.c (.sl [] 0 1 .nil)))])
   (.seq (.blk 0 (.loop l_pack_Uvarint_0))
   (.seq (.reg [] [fi 14 (.mv (.t 3)),
    fi 15 (.mv (.t 0)),
    fi 16 (.conv (.int .u8) (.t 15)),
    ei 17 (.buildSlice 1 1 0 [(.int .u8 0)] [(0, 1, (.t 16))]),
    ei 18 (.append 1 1 false (.t 14) (.t 17)),
    fi 2 (.mv (.t 18))])
   .ret))))
theorem k_pack_Uvarint : chkFn Tryz.prog n_pack_Uvarint ⟨b_pack_Uvarint, [.tmp 2], 19⟩ = true := by kernel_rfl
/-- fascine/pack.Zag -/
abbrev n_pack_Zag : Nat := 64
def b_pack_Zag : Cd := (.seq (.reg [] [fi 2 (.mv (.c (.int .i64 0)))])
   (.seq (.reg [] [fi 3 (.mv (.t 0)),
    fi 4 (.bin .shr (.t 3) (.c (.int .u64 1))),
    fi 5 (.conv (.int .i64) (.t 4)),
    fi 6 (.mv (.t 0)),
    fi 7 (.bin .and (.t 6) (.c (.int .u64 1))),
    fi 8 (.conv (.int .i64) (.t 7)),
    fi 9 (.un .neg (.t 8)),
    fi 10 (.bin .xor (.t 5) (.t 9)),
    fi 2 (.mv (.t 10))])
   .ret))
theorem k_pack_Zag : chkFn Tryz.prog n_pack_Zag ⟨b_pack_Zag, [.tmp 2], 11⟩ = true := by kernel_rfl
/-- fascine/pack.Zig -/
abbrev n_pack_Zig : Nat := 50
def b_pack_Zig : Cd := (.seq (.reg [] [fi 2 (.mv (.c (.int .u64 0)))])
   (.seq (.reg [] [fi 3 (.mv (.t 0)),
    fi 4 (.conv (.int .u64) (.t 3)),
    fi 5 (.bin .shl (.t 4) (.c (.int .u64 1))),
    fi 6 (.mv (.t 0)),
    fi 7 (.bin .shr (.t 6) (.c (.int .u64 63))),
    fi 8 (.conv (.int .u64) (.t 7)),
    fi 9 (.bin .xor (.t 5) (.t 8)),
    fi 2 (.mv (.t 9))])
   .ret))
theorem k_pack_Zig : chkFn Tryz.prog n_pack_Zig ⟨b_pack_Zig, [.tmp 2], 10⟩ = true := by kernel_rfl
/-- fascine/pack.four -/
abbrev n_pack_four : Nat := 68
def b_pack_four : Cd := (.seq (.reg [] [fi 2 (.mv (.c (.sl [] 0 1 .nil)))])
   (.seq (.reg [] [fi 3 (.mv (.t 0)),
    fi 4 (.bin .shr (.t 3) (.c (.int .u64 24))),
    fi 5 (.conv (.int .u8) (.t 4)),
    fi 6 (.mv (.t 0)),
    fi 7 (.bin .shr (.t 6) (.c (.int .u64 16))),
    fi 8 (.conv (.int .u8) (.t 7)),
    fi 9 (.mv (.t 0)),
    fi 10 (.bin .shr (.t 9) (.c (.int .u64 8))),
    fi 11 (.conv (.int .u8) (.t 10)),
    fi 12 (.mv (.t 0)),
    fi 13 (.conv (.int .u8) (.t 12)),
    ei 14 (.buildSlice 4 1 0 [(.int .u8 0), (.int .u8 0), (.int .u8 0), (.int .u8 0)] [(0, 1, (.t 5)), (1, 1, (.t 8)), (2, 1, (.t 11)), (3, 1, (.t 13))]),
    fi 2 (.mv (.t 14))])
   .ret))
theorem k_pack_four : chkFn Tryz.prog n_pack_four ⟨b_pack_four, [.tmp 2], 15⟩ = true := by kernel_rfl
end Go.VM
