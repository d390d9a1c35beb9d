/-
  The codes of functions, as the value machine has them, and that they stand for the model's (printed by a program, wip/gen).
-/
import Derived.Test.YthpiomallkidlaaGreatDoorJ06
import Derived.Test.YthpiomallkidlaaGreatDoorProg
import Derived.KernelRfl
set_option linter.unusedVariables false
set_option maxRecDepth 100000
namespace Go.VM
open Go Go.Proofs
abbrev n_copy_Copy_Append : Nat := 180
def b_copy_Copy_Append : Cd := (.seq (.reg [] [ei 3 (.box (.t 1)),
  fi 4 (.mv (.c (.int .i64 0)))])
 (.seq (.seq (.reg [] [fi 7 (.mv (.t 0)),
  fi 8 (.eq false .ptr (.t 7) (.c (.ptr none)))])
 (.ite (.t 8)
 (.seq (.reg [] [fi 4 (.mv (.c (.int .i64 8)))])
 .ret)
 .skip))
 (.seq (.reg [] [fi 10 (.load true 4 (.t 3)),
  ei 11 (.call 198 [(.t 10)]),
  fi 9 (.mv (.t 11)),
  fi 12 (.extract (.t 9) 0),
  fi 13 (.extract (.t 9) 1),
  fi 5 (.mv (.t 12)),
  fi 6 (.mv (.t 13))])
 (.seq (.seq (.reg [] [fi 14 (.mv (.t 6)),
  fi 15 (.bin .neq (.t 14) (.c (.int .i64 0)))])
 (.ite (.t 15)
 (.seq (.reg [] [fi 16 (.mv (.t 6)),
  fi 4 (.mv (.t 16))])
 .ret)
 .skip))
 (.seq (.seq (.reg [0, 1, 2, 3, 4, 5, 6, 7, 8, 9, 10, 11, 12, 13, 14, 15, 16, 17] [fi 17 (.fieldAddr 0 (.t 3)),
  fi 18 (.load false 1 (.t 17)),
  fi 19 (.mv (.t 0)),
  fi 20 (.nilCheck (.t 19)),
  fi 21 (.fieldAddr 2 (.t 20)),
  fi 22 (.fieldAddr 0 (.t 21)),
  fi 23 (.load false 1 (.t 22)),
  fi 24 (.bin .neq (.t 18) (.t 23)),
  fi 25 (.mv (.t 24)),
  .run ⟨(some 26), (some (25, false)), .f (.fieldAddr 0 (.t 3))⟩,
  .run ⟨(some 27), (some (25, false)), .f (.load false 1 (.t 26))⟩,
  .run ⟨(some 28), (some (25, false)), .f (.mv (.t 0))⟩,
  .run ⟨(some 29), (some (25, false)), .f (.nilCheck (.t 28))⟩,
  .run ⟨(some 30), (some (25, false)), .f (.fieldAddr 2 (.t 29))⟩,
  .run ⟨(some 31), (some (25, false)), .f (.fieldAddr 2 (.t 30))⟩,
  .run ⟨(some 32), (some (25, false)), .f (.load false 1 (.t 31))⟩,
  .run ⟨(some 33), (some (25, false)), .f (.bin .neq (.t 27) (.t 32))⟩,
  fi 34 (.pick (.t 25) (.c (.bool true)) (.t 33))])
 (.ite (.t 34)
 (.seq (.reg [] [fi 4 (.mv (.c (.int .i64 12)))])
 .ret)
 .skip))
 (.seq (.reg [0, 1, 2, 3, 5, 4, 3, 6, 3, 7, 8] [fi 35 (.mv (.t 0)),
  fi 36 (.nilCheck (.t 35)),
  fi 37 (.fieldAddr 0 (.t 36)),
  fi 38 (.load false 1 (.t 37)),
  fi 40 (.mv (.t 5)),
  ei 39 (.buildSlice 1 1 0 [(.int .u8 0)] [(0, 1, (.c (.int .u8 79)))]),
  .chk 38 none (.load false 1 (.t 37)),
  ei 41 (.append 1 1 false (.t 39) (.t 40)),
  .chk 38 none (.load false 1 (.t 37)),
  ei 42 (.call 122 [(.t 38), (.t 41)]),
  fi 6 (.mv (.t 42))])
 (.seq (.seq (.reg [] [fi 43 (.mv (.t 6)),
  fi 44 (.bin .eql (.t 43) (.c (.int .i64 0)))])
 (.ite (.t 44)
 (.reg [] [fi 45 (.mv (.t 0)),
  fi 46 (.nilCheck (.t 45)),
  fi 47 (.fieldAddr 0 (.t 46)),
  fi 48 (.load false 1 (.t 47)),
  ei 49 (.call 124 [(.t 48)]),
  fi 6 (.mv (.t 49))])
 .skip))
 (.seq (.seq (.reg [] [fi 50 (.mv (.t 6)),
  fi 51 (.bin .eql (.t 50) (.c (.int .i64 0)))])
 (.ite (.t 51)
 (.reg [0, 1, 2, 3, 4, 5, 6, 4, 7, 8, 9, 10] [fi 52 (.mv (.t 0)),
  fi 53 (.mv (.t 0)),
  fi 54 (.nilCheck (.t 53)),
  fi 55 (.fieldAddr 1 (.t 54)),
  fi 56 (.load false 1 (.t 55)),
  fi 57 (.load true 4 (.t 3)),
  ei 58 (.buildSlice 1 4 0 [(.int .u64 0), (.str (mkS [])), (.int .i64 0), (.str (mkS []))] [(0, 4, (.t 57))]),
  .chk 56 none (.load false 1 (.t 55)),
  ei 59 (.append 4 48 false (.t 56) (.t 58)),
  fi 60 (.nilCheck (.t 52)),
  fi 61 (.fieldAddr 1 (.t 60)),
  st (.store 1 (.t 61) (.t 59))])
 .skip))
 (.seq (.reg [] [fi 62 (.mv (.t 6)),
  fi 4 (.mv (.t 62))])
 .ret)))))))))
theorem k_copy_Copy_Append : chkFn Tryz.prog n_copy_Copy_Append ⟨b_copy_Copy_Append, [.tmp 4], 63⟩ = true := by kernel_rfl
abbrev n_copy_Copy_Len : Nat := 82
def b_copy_Copy_Len : Cd := (.seq (.reg [] [fi 2 (.mv (.c (.int .i64 0)))])
 (.seq (.seq (.reg [] [fi 3 (.mv (.t 0)),
  fi 4 (.eq false .ptr (.t 3) (.c (.ptr none)))])
 (.ite (.t 4)
 (.seq (.reg [] [fi 2 (.mv (.c (.int .i64 0)))])
 .ret)
 .skip))
 (.seq (.reg [] [fi 5 (.mv (.t 0)),
  fi 6 (.nilCheck (.t 5)),
  fi 7 (.fieldAddr 1 (.t 6)),
  fi 8 (.load false 1 (.t 7)),
  fi 9 (.len .sl (.t 8)),
  fi 2 (.mv (.t 9))])
 .ret)))
theorem k_copy_Copy_Len : chkFn Tryz.prog n_copy_Copy_Len ⟨b_copy_Copy_Len, [.tmp 2], 10⟩ = true := by kernel_rfl
abbrev n_copy_Copy_Ops : Nat := 32
def b_copy_Copy_Ops : Cd := (.seq (.reg [] [fi 2 (.mv (.c (.sl [] 0 4 .nil)))])
 (.seq (.seq (.reg [] [fi 3 (.mv (.t 0)),
  fi 4 (.eq false .ptr (.t 3) (.c (.ptr none)))])
 (.ite (.t 4)
 (.seq (.reg [] [fi 2 (.mv (.c (.sl [] 0 4 .nil)))])
 .ret)
 .skip))
 (.seq (.reg [] [fi 5 (.mv (.t 0)),
  fi 6 (.nilCheck (.t 5)),
  fi 7 (.fieldAddr 1 (.t 6)),
  fi 8 (.load false 1 (.t 7)),
  ei 9 (.append 4 48 false (.c (.sl [] 0 4 .nil)) (.t 8)),
  fi 2 (.mv (.t 9))])
 .ret)))
theorem k_copy_Copy_Ops : chkFn Tryz.prog n_copy_Copy_Ops ⟨b_copy_Copy_Ops, [.tmp 2], 10⟩ = true := by kernel_rfl
abbrev n_copy_Copy_Serve : Nat := 57
def s_copy_Copy_Serve_0 : Cd := (.seq (.reg [] [fi 25 (.mv (.t 0)),
  fi 26 (.mv (.t 1)),
  fi 27 (.mv (.t 1)),
  fi 28 (.mv (.t 1)),
  fi 29 (.build [(.int .u64 0), (.int .u64 0), (.int .u64 0)] [(0, 1, (.t 26)), (1, 1, (.t 27)), (2, 1, (.t 28))]),
  ei 30 (.call 105 [(.t 25), (.t 29)]),
  fi 4 (.mv (.t 30))])
 .ret)
def b_copy_Copy_Serve : Cd := (.seq (.reg [] [fi 4 (.mv (.c (.int .i64 0)))])
 (.seq (.blk 0 (.seq (.reg [] [fi 6 (.mv (.t 0)),
  fi 7 (.eq false .ptr (.t 6) (.c (.ptr none))),
  fi 5 (.mv (.t 7))])
 (.ite (.t 5)
 (.seq (.reg [] [fi 4 (.mv (.c (.int .i64 8)))])
 .ret)
 (.seq (.reg [] [fi 9 (.mv (.t 1)),
  fi 10 (.mv (.t 0)),
  fi 11 (.nilCheck (.t 10)),
  fi 12 (.fieldAddr 2 (.t 11)),
  fi 13 (.fieldAddr 0 (.t 12)),
  fi 14 (.load false 1 (.t 13)),
  fi 15 (.bin .lss (.t 9) (.t 14)),
  fi 16 (.mv (.t 15)),
  .run ⟨(some 17), (some (16, false)), .f (.mv (.t 1))⟩,
  .run ⟨(some 18), (some (16, false)), .f (.mv (.t 0))⟩,
  .run ⟨(some 19), (some (16, false)), .f (.nilCheck (.t 18))⟩,
  .run ⟨(some 20), (some (16, false)), .f (.fieldAddr 2 (.t 19))⟩,
  .run ⟨(some 21), (some (16, false)), .f (.fieldAddr 1 (.t 20))⟩,
  .run ⟨(some 22), (some (16, false)), .f (.load false 1 (.t 21))⟩,
  .run ⟨(some 23), (some (16, false)), .f (.bin .leq (.t 17) (.t 22))⟩,
  fi 24 (.pick (.t 16) (.c (.bool true)) (.t 23)),
  fi 8 (.mv (.t 24))])
 (.ite (.t 8)
 (.seq (.reg [] [fi 4 (.mv (.c (.int .i64 12)))])
 .ret)
 .skip)))))
 s_copy_Copy_Serve_0))
theorem k_copy_Copy_Serve : chkFn Tryz.prog n_copy_Copy_Serve ⟨b_copy_Copy_Serve, [.tmp 4], 31⟩ = true := by kernel_rfl
abbrev n_copy_Copy_Terms : Nat := 56
def b_copy_Copy_Terms : Cd := (.seq (.reg [] [ei 2 (.alloc [(.int .u64 0), (.int .u64 0), (.int .u64 0)])])
 (.seq (.seq (.reg [] [fi 3 (.mv (.t 0)),
  fi 4 (.eq false .ptr (.t 3) (.c (.ptr none)))])
 (.ite (.t 4)
 (.seq (.reg [] [fi 5 (.build [(.int .u64 0), (.int .u64 0), (.int .u64 0)] []),
  st (.store 3 (.t 2) (.t 5))])
 .ret)
 .skip))
 (.seq (.reg [] [fi 6 (.mv (.t 0)),
  fi 7 (.nilCheck (.t 6)),
  fi 8 (.fieldAddr 2 (.t 7)),
  fi 9 (.load true 3 (.t 8)),
  st (.store 3 (.t 2) (.t 9))])
 .ret)))
theorem k_copy_Copy_Terms : chkFn Tryz.prog n_copy_Copy_Terms ⟨b_copy_Copy_Terms, [.cell 2 true 3], 10⟩ = true := by kernel_rfl
abbrev n_copy_Copy_mark : Nat := 105
def b_copy_Copy_mark : Cd := (.seq (.reg [] [ei 3 (.box (.t 1)),
  fi 4 (.mv (.c (.int .i64 0)))])
 (.seq (.reg [0, 1, 2, 3, 4, 5, 3, 6, 7] [fi 6 (.mv (.t 0)),
  fi 7 (.nilCheck (.t 6)),
  fi 8 (.fieldAddr 0 (.t 7)),
  fi 9 (.load false 1 (.t 8)),
  fi 10 (.load true 3 (.t 3)),
  ei 11 (.call 174 [(.t 10)]),
  .chk 9 none (.load false 1 (.t 8)),
  ei 12 (.call 122 [(.t 9), (.t 11)]),
  fi 5 (.mv (.t 12))])
 (.seq (.seq (.reg [] [fi 13 (.mv (.t 5)),
  fi 14 (.bin .eql (.t 13) (.c (.int .i64 0)))])
 (.ite (.t 14)
 (.reg [] [fi 15 (.mv (.t 0)),
  fi 16 (.nilCheck (.t 15)),
  fi 17 (.fieldAddr 0 (.t 16)),
  fi 18 (.load false 1 (.t 17)),
  ei 19 (.call 124 [(.t 18)]),
  fi 5 (.mv (.t 19))])
 .skip))
 (.seq (.seq (.reg [] [fi 20 (.mv (.t 5)),
  fi 21 (.bin .eql (.t 20) (.c (.int .i64 0)))])
 (.ite (.t 21)
 (.reg [] [fi 22 (.mv (.t 0)),
  fi 23 (.load true 3 (.t 3)),
  fi 24 (.nilCheck (.t 22)),
  fi 25 (.fieldAddr 2 (.t 24)),
  st (.store 3 (.t 25) (.t 23))])
 .skip))
 (.seq (.reg [] [fi 26 (.mv (.t 5)),
  fi 4 (.mv (.t 26))])
 .ret)))))
theorem k_copy_Copy_mark : chkFn Tryz.prog n_copy_Copy_mark ⟨b_copy_Copy_mark, [.tmp 4], 27⟩ = true := by kernel_rfl
abbrev n_copy_Encode : Nat := 198
def b_copy_Encode : Cd := (.seq (.reg [] [ei 1 (.box (.t 0)),
  fi 2 (.mv (.c (.sl [] 0 1 .nil))),
  fi 3 (.mv (.c (.int .i64 0)))])
 (.seq (.seq (.reg [] [fi 5 (.fieldAddr 1 (.t 1)),
  fi 6 (.load true 3 (.t 5)),
  ei 7 (.call 34 [(.t 6)]),
  fi 8 (.un .not (.t 7))])
 (.ite (.t 8)
 (.seq (.reg [] [fi 2 (.mv (.c (.sl [] 0 1 .nil))),
  fi 3 (.mv (.c (.int .i64 3)))])
 .ret)
 .skip))
 (.seq (.reg [] [fi 9 (.fieldAddr 0 (.t 1)),
  fi 10 (.load false 1 (.t 9)),
  ei 11 (.call 125 [(.t 10)]),
  fi 4 (.mv (.t 11))])
 (.seq (.reg [] [fi 12 (.mv (.t 4)),
  fi 13 (.fieldAddr 1 (.t 1)),
  fi 14 (.fieldAddr 0 (.t 13)),
  fi 15 (.load false 1 (.t 14)),
  ei 16 (.call 197 [(.t 15)]),
  ei 17 (.append 1 1 false (.t 12) (.t 16)),
  fi 4 (.mv (.t 17))])
 (.seq (.reg [] [fi 18 (.mv (.t 4)),
  fi 19 (.fieldAddr 1 (.t 1)),
  fi 20 (.fieldAddr 1 (.t 19)),
  fi 21 (.load false 1 (.t 20)),
  ei 22 (.call 196 [(.t 21)]),
  ei 23 (.call 125 [(.t 22)]),
  ei 24 (.append 1 1 false (.t 18) (.t 23)),
  fi 4 (.mv (.t 24))])
 (.seq (.reg [] [fi 25 (.mv (.t 4)),
  fi 26 (.fieldAddr 1 (.t 1)),
  fi 27 (.fieldAddr 2 (.t 26)),
  fi 28 (.load false 1 (.t 27)),
  ei 29 (.call 197 [(.t 28)]),
  ei 30 (.append 1 1 false (.t 25) (.t 29)),
  fi 2 (.mv (.t 30)),
  fi 3 (.mv (.c (.int .i64 0)))])
 .ret))))))
theorem k_copy_Encode : chkFn Tryz.prog n_copy_Encode ⟨b_copy_Encode, [.tmp 2, .tmp 3], 31⟩ = true := by kernel_rfl
abbrev n_copy_Open : Nat := 26
def l_copy_Open_0 : Cd := (.seq (.reg [] [fi 35 (.bin .lss (.t 34) (.t 33))])
 (.seq (.ite (.t 35)
 .skip
 (.exit 0))
 (.seq (.blk 1 (.seq (.reg [] [fi 36 (.mv (.t 34)),
  fi 9 (.mv (.t 36))])
 (.seq (.reg [] [fi 38 (.mv (.t 6)),
  fi 39 (.mv (.t 9)),
  ei 40 (.call 47 [(.t 38), (.t 39)]),
  fi 37 (.mv (.t 40)),
  fi 41 (.extract (.t 37) 0),
  fi 42 (.extract (.t 37) 1),
  fi 10 (.mv (.t 41)),
  fi 11 (.mv (.t 42))])
 (.seq (.reg [] [fi 43 (.mv (.t 8)),
  fi 44 (.mv (.t 10)),
  ei 45 (.call 50 [(.t 43), (.t 44)]),
  fi 46 (.un .not (.t 45))])
 (.ite (.t 46)
 (.seq (.reg [] [fi 4 (.mv (.c (.ptr none))),
  fi 5 (.mv (.c (.int .i64 3)))])
 .ret)
 .skip)))))
 (.reg [] [fi 47 (.bin .add (.t 34) (.c (.int .i64 1))),
  fi 34 (.mv (.t 47))]))))
def b_copy_Open : Cd := (.seq (.reg [] [fi 4 (.mv (.c (.ptr none))),
  fi 5 (.mv (.c (.int .i64 0)))])
 (.seq (.seq (.reg [] [fi 12 (.mv (.t 1)),
  fi 13 (.bin .lss (.t 12) (.c (.int .i64 0))),
  fi 14 (.mv (.t 13)),
  .run ⟨(some 15), (some (14, false)), .f (.mv (.t 1))⟩,
  .run ⟨(some 16), (some (14, false)), .f (.bin .geq (.t 15) (.c (.int .i64 8)))⟩,
  fi 17 (.pick (.t 14) (.c (.bool true)) (.t 16))])
 (.ite (.t 17)
 (.seq (.reg [] [fi 4 (.mv (.c (.ptr none))),
  fi 5 (.mv (.c (.int .i64 1)))])
 .ret)
 .skip))
 (.seq (.reg [] [fi 19 (.mv (.t 0)),
  fi 20 (.mv (.t 1)),
  ei 21 (.call 49 [(.t 20)]),
  fi 22 (.bin .add (.c (.str (mkS [115, 104, 97, 114, 100, 45]))) (.t 21)),
  ei 23 (.call 45 [(.t 19), (.t 22)]),
  fi 18 (.mv (.t 23)),
  fi 24 (.extract (.t 18) 0),
  fi 25 (.extract (.t 18) 1),
  fi 6 (.mv (.t 24)),
  fi 7 (.mv (.t 25))])
 (.seq (.seq (.reg [] [fi 26 (.mv (.t 7)),
  fi 27 (.bin .neq (.t 26) (.c (.int .i64 0)))])
 (.ite (.t 27)
 (.seq (.reg [] [fi 28 (.mv (.t 7)),
  fi 4 (.mv (.c (.ptr none))),
  fi 5 (.mv (.t 28))])
 .ret)
 .skip))
 (.seq (.reg [] [fi 29 (.mv (.t 6)),
  fi 30 (.build [(.ptr none), (.sl [] 0 4 .nil), (.int .u64 0), (.int .u64 0), (.int .u64 0)] [(0, 1, (.t 29))]),
  ei 31 (.box (.t 30)),
  fi 8 (.mv (.t 31))])
 (.seq (.seq (.reg [] [fi 32 (.mv (.t 6)),
  ei 33 (.call 46 [(.t 32)]),
  fi 34 (.mv (.c (.int .i64 0)))])
 (.blk 0 (.loop l_copy_Open_0)))
 (.seq (.reg [] [fi 48 (.mv (.t 8)),
  fi 4 (.mv (.t 48)),
  fi 5 (.mv (.c (.int .i64 0)))])
 .ret)))))))
theorem k_copy_Open : chkFn Tryz.prog n_copy_Open ⟨b_copy_Open, [.tmp 4, .tmp 5], 49⟩ = true := by kernel_rfl
abbrev n_copy_Terms_record : Nat := 174
def l_copy_Terms_record_0 : Cd := (.seq (.reg [] [fi 16 (.bin .lss (.t 15) (.t 14))])
 (.seq (.ite (.t 16)
 .skip
 (.exit 0))
 (.seq (.blk 1 (.seq (.reg [] [fi 17 (.indexAddr 1 (.t 13) (.t 15)),
  fi 18 (.load false 1 (.t 17)),
  fi 5 (.mv (.t 18))])
 (.reg [] [fi 19 (.mv (.t 3)),
  fi 20 (.mv (.t 5)),
  ei 21 (.call 125 [(.t 20)]),
  ei 22 (.append 1 1 false (.t 19) (.t 21)),
  fi 3 (.mv (.t 22))])))
 (.reg [] [fi 23 (.bin .add (.t 15) (.c (.int .i64 1))),
  fi 15 (.mv (.t 23))]))))
def b_copy_Terms_record : Cd := (.seq (.reg [] [ei 1 (.box (.t 0)),
  fi 2 (.mv (.c (.sl [] 0 1 .nil)))])
 (.seq (.reg [] [ei 6 (.buildSlice 1 1 0 [(.int .u8 0)] [(0, 1, (.c (.int .u8 70)))]),
  fi 3 (.mv (.t 6))])
 (.seq (.seq (.reg [] [fi 7 (.fieldAddr 0 (.t 1)),
  fi 8 (.load false 1 (.t 7)),
  fi 9 (.fieldAddr 1 (.t 1)),
  fi 10 (.load false 1 (.t 9)),
  fi 11 (.fieldAddr 2 (.t 1)),
  fi 12 (.load false 1 (.t 11)),
  ei 13 (.buildSlice 3 1 0 [(.int .u64 0), (.int .u64 0), (.int .u64 0)] [(0, 1, (.t 8)), (1, 1, (.t 10)), (2, 1, (.t 12))]),
  fi 14 (.len .sl (.t 13)),
  fi 15 (.mv (.c (.int .i64 0)))])
 (.blk 0 (.loop l_copy_Terms_record_0)))
 (.seq (.reg [] [fi 24 (.mv (.t 3)),
  fi 2 (.mv (.t 24))])
 .ret))))
theorem k_copy_Terms_record : chkFn Tryz.prog n_copy_Terms_record ⟨b_copy_Terms_record, [.tmp 2], 25⟩ = true := by kernel_rfl
abbrev n_index_Index_Add : Nat := 51
def s_index_Index_Add_0 : Cd := (.seq (.seq (.reg [0, 1, 2, 3, 4, 5, 6, 7, 8, 9, 10, 11] [fi 16 (.mv (.t 0)),
  fi 17 (.nilCheck (.t 16)),
  fi 18 (.fieldAddr 4 (.t 17)),
  fi 19 (.load false 1 (.t 18)),
  fi 20 (.fieldAddr 0 (.t 3)),
  fi 21 (.load false 1 (.t 20)),
  fi 22 (.lookup .str true (.int .i64 0) (.t 19) (.t 21)),
  fi 15 (.mv (.t 22)),
  fi 23 (.extract (.t 15) 0),
  fi 24 (.extract (.t 15) 1),
  fi 6 (.mv (.t 23)),
  fi 7 (.mv (.t 24))])
 (.seq (.reg [] [fi 25 (.mv (.t 7))])
 (.ite (.t 25)
 (.seq (.reg [] [fi 26 (.mv (.t 6)),
  fi 4 (.mv (.t 26)),
  fi 5 (.mv (.c (.int .i64 9)))])
 .ret)
 .skip)))
 (.seq (.seq (.reg [] [fi 27 (.mv (.t 0)),
  fi 28 (.nilCheck (.t 27)),
  fi 29 (.fieldAddr 5 (.t 28)),
  fi 30 (.load false 1 (.t 29)),
  fi 31 (.bin .geq (.t 30) (.c (.int .i64 4096)))])
 (.ite (.t 31)
 (.seq (.reg [] [fi 4 (.mv (.c (.int .i64 0))),
  fi 5 (.mv (.c (.int .i64 11)))])
 .ret)
 .skip))
 (.seq (.reg [0, 1, 2, 3, 4, 5, 6, 7, 8, 9, 10] [fi 32 (.mv (.t 0)),
  fi 33 (.nilCheck (.t 32)),
  fi 34 (.fieldAddr 4 (.t 33)),
  fi 35 (.load false 1 (.t 34)),
  fi 36 (.fieldAddr 0 (.t 3)),
  fi 37 (.load false 1 (.t 36)),
  fi 38 (.mv (.t 0)),
  fi 39 (.nilCheck (.t 38)),
  fi 40 (.fieldAddr 5 (.t 39)),
  fi 41 (.load false 1 (.t 40)),
  st (.mapSet .str (.t 35) (.t 37) (.t 41))])
 (.seq (.reg [0, 1, 2, 3, 4, 5, 6, 4, 7, 8, 9, 10] [fi 42 (.mv (.t 0)),
  fi 43 (.mv (.t 0)),
  fi 44 (.nilCheck (.t 43)),
  fi 45 (.fieldAddr 3 (.t 44)),
  fi 46 (.load false 1 (.t 45)),
  fi 47 (.load true 3 (.t 3)),
  ei 48 (.buildSlice 1 3 0 [(.str (mkS [])), (.int .i64 0), (.str (mkS []))] [(0, 3, (.t 47))]),
  .chk 46 none (.load false 1 (.t 45)),
  ei 49 (.append 3 40 false (.t 46) (.t 48)),
  fi 50 (.nilCheck (.t 42)),
  fi 51 (.fieldAddr 3 (.t 50)),
  st (.store 1 (.t 51) (.t 49))])
 (.seq (.reg [] [fi 52 (.mv (.t 0)),
  fi 53 (.nilCheck (.t 52)),
  fi 54 (.fieldAddr 5 (.t 53)),
  fi 55 (.load false 1 (.t 54)),
  fi 56 (.bin .add (.t 55) (.c (.int .i64 1))),
  fi 57 (.nilCheck (.t 52)),
  fi 58 (.fieldAddr 5 (.t 57)),
  st (.store 1 (.t 58) (.t 56))])
 (.seq (.seq (.reg [0, 1, 2, 3, 4, 5, 6, 7, 8, 9] [fi 59 (.mv (.t 0)),
  fi 60 (.nilCheck (.t 59)),
  fi 61 (.fieldAddr 3 (.t 60)),
  fi 62 (.load false 1 (.t 61)),
  fi 63 (.len .sl (.t 62)),
  fi 64 (.mv (.t 0)),
  fi 65 (.nilCheck (.t 64)),
  fi 66 (.fieldAddr 0 (.t 65)),
  fi 67 (.load false 1 (.t 66)),
  fi 68 (.bin .geq (.t 63) (.t 67))])
 (.ite (.t 68)
 (.seq (.reg [] [fi 69 (.mv (.t 0)),
  fi 70 (.mv (.t 0)),
  fi 71 (.nilCheck (.t 70)),
  fi 72 (.fieldAddr 3 (.t 71)),
  fi 73 (.load false 1 (.t 72)),
  ei 74 (.call 98 [(.t 69), (.t 73)])])
 (.reg [] [fi 75 (.mv (.t 0)),
  fi 76 (.nilCheck (.t 75)),
  fi 77 (.fieldAddr 3 (.t 76)),
  st (.store 1 (.t 77) (.c (.sl [] 0 3 .nil)))]))
 .skip))
 (.seq (.reg [] [fi 78 (.mv (.t 0)),
  fi 79 (.nilCheck (.t 78)),
  fi 80 (.fieldAddr 5 (.t 79)),
  fi 81 (.load false 1 (.t 80)),
  fi 82 (.bin .sub (.t 81) (.c (.int .i64 1))),
  fi 4 (.mv (.t 82)),
  fi 5 (.mv (.c (.int .i64 0)))])
 .ret)))))))
def b_index_Index_Add : Cd := (.seq (.reg [] [ei 3 (.box (.t 1)),
  fi 4 (.mv (.c (.int .i64 0))),
  fi 5 (.mv (.c (.int .i64 0)))])
 (.seq (.blk 0 (.seq (.reg [] [fi 9 (.mv (.t 0)),
  fi 10 (.eq false .ptr (.t 9) (.c (.ptr none))),
  fi 8 (.mv (.t 10))])
 (.ite (.t 8)
 (.seq (.reg [] [fi 4 (.mv (.c (.int .i64 0))),
  fi 5 (.mv (.c (.int .i64 8)))])
 .ret)
 (.seq (.reg [] [fi 12 (.load true 3 (.t 3)),
  ei 13 (.call 34 [(.t 12)]),
  fi 14 (.un .not (.t 13)),
  fi 11 (.mv (.t 14))])
 (.ite (.t 11)
 (.seq (.reg [] [fi 4 (.mv (.c (.int .i64 0))),
  fi 5 (.mv (.c (.int .i64 3)))])
 .ret)
 .skip)))))
 s_index_Index_Add_0))
theorem k_index_Index_Add : chkFn Tryz.prog n_index_Index_Add ⟨b_index_Index_Add, [.tmp 4, .tmp 5], 83⟩ = true := by kernel_rfl
abbrev n_index_Index_Get : Nat := 181
def b_index_Index_Get : Cd := (.seq (.reg [] [fi 4 (.mv (.c (.int .i64 0))),
  fi 5 (.mv (.c (.int .i64 0)))])
 (.seq (.seq (.reg [] [fi 8 (.mv (.t 0)),
  fi 9 (.eq false .ptr (.t 8) (.c (.ptr none)))])
 (.ite (.t 9)
 (.seq (.reg [] [fi 4 (.mv (.c (.int .i64 0))),
  fi 5 (.mv (.c (.int .i64 8)))])
 .ret)
 .skip))
 (.seq (.reg [] [fi 11 (.mv (.t 0)),
  fi 12 (.nilCheck (.t 11)),
  fi 13 (.fieldAddr 4 (.t 12)),
  fi 14 (.load false 1 (.t 13)),
  fi 15 (.mv (.t 1)),
  fi 16 (.lookup .str true (.int .i64 0) (.t 14) (.t 15)),
  fi 10 (.mv (.t 16)),
  fi 17 (.extract (.t 10) 0),
  fi 18 (.extract (.t 10) 1),
  fi 6 (.mv (.t 17)),
  fi 7 (.mv (.t 18))])
 (.seq (.seq (.reg [] [fi 19 (.mv (.t 7)),
  fi 20 (.un .not (.t 19))])
 (.ite (.t 20)
 (.seq (.reg [] [fi 4 (.mv (.c (.int .i64 0))),
  fi 5 (.mv (.c (.int .i64 8)))])
 .ret)
 .skip))
 (.seq (.reg [] [fi 21 (.mv (.t 6)),
  fi 4 (.mv (.t 21)),
  fi 5 (.mv (.c (.int .i64 0)))])
 .ret)))))
theorem k_index_Index_Get : chkFn Tryz.prog n_index_Index_Get ⟨b_index_Index_Get, [.tmp 4, .tmp 5], 22⟩ = true := by kernel_rfl
abbrev n_index_Index_lay : Nat := 98
def l_index_Index_lay_0 : Cd := (.seq (.reg [] [fi 108 (.bin .lss (.t 107) (.t 106))])
 (.seq (.ite (.t 108)
 .skip
 (.exit 2))
 (.seq (.blk 3 (.seq (.reg [] [fi 109 (.indexAddr 3 (.t 105) (.t 107)),
  fi 110 (.load true 3 (.t 109)),
  ei 13 (.alloc [(.sl [] 0 1 .nil), (.ptr none), (.int .i64 0)]),
  st (.store 3 (.t 13) (.t 110))])
 (.reg [] [fi 111 (.mv (.t 10)),
  fi 112 (.fieldAddr 1 (.t 13)),
  fi 113 (.load false 1 (.t 112)),
  ei 114 (.call 169 [(.t 113)]),
  ei 115 (.append 3 40 false (.t 111) (.t 114)),
  fi 10 (.mv (.t 115))])))
 (.reg [] [fi 116 (.bin .add (.t 107) (.c (.int .i64 1))),
  fi 107 (.mv (.t 116))]))))
def s_index_Index_lay_0 : Cd := (.seq (.reg [] [fi 118 (.mv (.t 10)),
  ei 119 (.call 166 [(.t 118)]),
  fi 117 (.mv (.t 119)),
  fi 120 (.extract (.t 117) 0),
  fi 121 (.extract (.t 117) 1),
  fi 14 (.mv (.t 120)),
  fi 15 (.mv (.t 121))])
 (.seq (.reg [] [fi 123 (.mv (.t 14)),
  ei 124 (.call 167 [(.t 123)]),
  fi 122 (.mv (.t 124)),
  fi 125 (.extract (.t 122) 0),
  fi 126 (.extract (.t 122) 1),
  fi 16 (.mv (.t 125)),
  fi 17 (.mv (.t 126))])
 (.reg [] [fi 127 (.mv (.t 0)),
  fi 128 (.mv (.t 0)),
  fi 129 (.nilCheck (.t 128)),
  fi 130 (.fieldAddr 2 (.t 129)),
  fi 131 (.load false 1 (.t 130)),
  fi 132 (.mv (.t 8)),
  fi 133 (.slice 3 (.t 131) none (some (.t 132)) none),
  ei 134 (.append 3 40 false (.c (.sl [] 0 3 .nil)) (.t 133)),
  fi 135 (.mv (.t 14)),
  fi 136 (.mv (.t 16)),
  fi 137 (.mv (.t 11)),
  fi 138 (.build [(.sl [] 0 1 .nil), (.ptr none), (.int .i64 0)] [(0, 1, (.t 135)), (1, 1, (.t 136)), (2, 1, (.t 137))]),
  ei 139 (.buildSlice 1 3 0 [(.sl [] 0 1 .nil), (.ptr none), (.int .i64 0)] [(0, 3, (.t 138))]),
  ei 140 (.append 3 40 false (.t 134) (.t 139)),
  fi 141 (.nilCheck (.t 127)),
  fi 142 (.fieldAddr 2 (.t 141)),
  st (.store 1 (.t 142) (.t 140))])))
def k_index_Index_lay_0 : Cd := (.seq (.reg [0, 1, 2, 3, 4, 5, 6, 7, 8, 9, 10] [fi 57 (.mv (.t 0)),
  fi 58 (.nilCheck (.t 57)),
  fi 59 (.fieldAddr 2 (.t 58)),
  fi 60 (.load false 1 (.t 59)),
  fi 61 (.len .sl (.t 60)),
  fi 62 (.mv (.t 0)),
  fi 63 (.nilCheck (.t 62)),
  fi 64 (.fieldAddr 1 (.t 63)),
  fi 65 (.load false 1 (.t 64)),
  fi 66 (.bin .sub (.t 61) (.t 65)),
  fi 8 (.mv (.t 66))])
 (.seq (.reg [0, 1, 2, 3, 4, 5, 6, 7, 8, 9, 10, 11, 12, 13, 14] [fi 67 (.mv (.t 0)),
  fi 68 (.nilCheck (.t 67)),
  fi 69 (.fieldAddr 2 (.t 68)),
  fi 70 (.load false 1 (.t 69)),
  fi 71 (.mv (.t 0)),
  fi 72 (.nilCheck (.t 71)),
  fi 73 (.fieldAddr 2 (.t 72)),
  fi 74 (.load false 1 (.t 73)),
  fi 75 (.len .sl (.t 74)),
  fi 76 (.bin .sub (.t 75) (.c (.int .i64 1))),
  fi 77 (.indexAddr 3 (.t 70) (.t 76)),
  fi 78 (.fieldAddr 1 (.t 77)),
  fi 79 (.load false 1 (.t 78)),
  ei 80 (.call 168 [(.t 79)]),
  fi 9 (.mv (.t 80))])
 (.seq (.seq (.reg [] [fi 81 (.mv (.t 0)),
  fi 82 (.nilCheck (.t 81)),
  fi 83 (.fieldAddr 2 (.t 82)),
  fi 84 (.load false 1 (.t 83)),
  fi 85 (.mv (.t 8)),
  fi 86 (.indexAddr 3 (.t 84) (.t 85)),
  fi 87 (.fieldAddr 1 (.t 86)),
  fi 88 (.load false 1 (.t 87)),
  ei 89 (.call 168 [(.t 88)]),
  fi 90 (.mv (.t 9)),
  fi 91 (.bin .neq (.t 89) (.t 90))])
 (.ite (.t 91)
 .ret
 .skip))
 (.seq (.reg [] [fi 10 (.mv (.c (.sl [] 0 3 .nil)))])
 (.seq (.reg [] [fi 92 (.mv (.t 0)),
  fi 93 (.nilCheck (.t 92)),
  fi 94 (.fieldAddr 2 (.t 93)),
  fi 95 (.load false 1 (.t 94)),
  fi 96 (.mv (.t 8)),
  fi 97 (.indexAddr 3 (.t 95) (.t 96)),
  fi 98 (.fieldAddr 2 (.t 97)),
  fi 99 (.load false 1 (.t 98)),
  fi 11 (.mv (.t 99))])
 (.seq (.seq (.reg [] [fi 100 (.mv (.t 0)),
  fi 101 (.nilCheck (.t 100)),
  fi 102 (.fieldAddr 2 (.t 101)),
  fi 103 (.load false 1 (.t 102)),
  fi 104 (.mv (.t 8)),
  fi 105 (.slice 3 (.t 103) (some (.t 104)) none none),
  fi 106 (.len .sl (.t 105)),
  fi 107 (.mv (.c (.int .i64 0)))])
 (.blk 2 (.loop l_index_Index_lay_0)))
 s_index_Index_lay_0))))))
def l_index_Index_lay_1 : Cd := (.seq (.seq (.reg [0, 1, 2, 3, 4, 5, 6, 7, 8, 9] [fi 47 (.mv (.t 0)),
  fi 48 (.nilCheck (.t 47)),
  fi 49 (.fieldAddr 2 (.t 48)),
  fi 50 (.load false 1 (.t 49)),
  fi 51 (.len .sl (.t 50)),
  fi 52 (.mv (.t 0)),
  fi 53 (.nilCheck (.t 52)),
  fi 54 (.fieldAddr 1 (.t 53)),
  fi 55 (.load false 1 (.t 54)),
  fi 56 (.bin .geq (.t 51) (.t 55))])
 (.ite (.t 56)
 .skip
 (.exit 0)))
 (.blk 1 k_index_Index_lay_0))
def b_index_Index_lay : Cd := (.seq (.reg [] [fi 19 (.mv (.t 1)),
  ei 20 (.call 166 [(.t 19)]),
  fi 18 (.mv (.t 20)),
  fi 21 (.extract (.t 18) 0),
  fi 22 (.extract (.t 18) 1),
  fi 4 (.mv (.t 21)),
  fi 5 (.mv (.t 22))])
 (.seq (.reg [] [fi 24 (.mv (.t 4)),
  ei 25 (.call 167 [(.t 24)]),
  fi 23 (.mv (.t 25)),
  fi 26 (.extract (.t 23) 0),
  fi 27 (.extract (.t 23) 1),
  fi 6 (.mv (.t 26)),
  fi 7 (.mv (.t 27))])
 (.seq (.reg [0, 1, 2, 3, 4, 5, 6, 7, 8, 9, 10, 11, 12, 13, 14, 15, 4, 16, 17, 18, 19] [fi 28 (.mv (.t 0)),
  fi 29 (.mv (.t 0)),
  fi 30 (.nilCheck (.t 29)),
  fi 31 (.fieldAddr 2 (.t 30)),
  fi 32 (.load false 1 (.t 31)),
  fi 33 (.mv (.t 4)),
  fi 34 (.mv (.t 6)),
  fi 35 (.mv (.t 0)),
  fi 36 (.nilCheck (.t 35)),
  fi 37 (.fieldAddr 5 (.t 36)),
  fi 38 (.load false 1 (.t 37)),
  fi 39 (.mv (.t 1)),
  fi 40 (.len .sl (.t 39)),
  fi 41 (.bin .sub (.t 38) (.t 40)),
  fi 42 (.build [(.sl [] 0 1 .nil), (.ptr none), (.int .i64 0)] [(0, 1, (.t 33)), (1, 1, (.t 34)), (2, 1, (.t 41))]),
  ei 43 (.buildSlice 1 3 0 [(.sl [] 0 1 .nil), (.ptr none), (.int .i64 0)] [(0, 3, (.t 42))]),
  .chk 32 none (.load false 1 (.t 31)),
  ei 44 (.append 3 40 false (.t 32) (.t 43)),
  fi 45 (.nilCheck (.t 28)),
  fi 46 (.fieldAddr 2 (.t 45)),
  st (.store 1 (.t 46) (.t 44))])
 (.blk 0 (.loop l_index_Index_lay_1)))))
theorem k_index_Index_lay : chkFn Tryz.prog n_index_Index_lay ⟨b_index_Index_lay, [], 143⟩ = true := by kernel_rfl
abbrev n_index_New : Nat := 24
def b_index_New : Cd := (.seq (.reg [] [fi 4 (.mv (.c (.ptr none))),
  fi 5 (.mv (.c (.int .i64 0)))])
 (.seq (.seq (.reg [] [fi 6 (.mv (.t 0)),
  fi 7 (.bin .lss (.t 6) (.c (.int .i64 1))),
  fi 8 (.mv (.t 7)),
  .run ⟨(some 9), (some (8, false)), .f (.mv (.t 0))⟩,
  .run ⟨(some 10), (some (8, false)), .f (.bin .gtr (.t 9) (.c (.int .i64 64)))⟩,
  fi 11 (.pick (.t 8) (.c (.bool true)) (.t 10)),
  fi 12 (.mv (.t 11)),
  .run ⟨(some 13), (some (12, false)), .f (.mv (.t 1))⟩,
  .run ⟨(some 14), (some (12, false)), .f (.bin .lss (.t 13) (.c (.int .i64 2)))⟩,
  fi 15 (.pick (.t 12) (.c (.bool true)) (.t 14)),
  fi 16 (.mv (.t 15)),
  .run ⟨(some 17), (some (16, false)), .f (.mv (.t 1))⟩,
  .run ⟨(some 18), (some (16, false)), .f (.bin .gtr (.t 17) (.c (.int .i64 8)))⟩,
  fi 19 (.pick (.t 16) (.c (.bool true)) (.t 18))])
 (.ite (.t 19)
 (.seq (.reg [] [fi 4 (.mv (.c (.ptr none))),
  fi 5 (.mv (.c (.int .i64 1)))])
 .ret)
 .skip))
 (.seq (.reg [] [fi 20 (.mv (.t 0)),
  fi 21 (.mv (.t 1)),
  ei 22 (.makeMap),
  fi 23 (.build [(.int .i64 0), (.int .i64 0), (.sl [] 0 3 .nil), (.sl [] 0 3 .nil), (.map none), (.int .i64 0)] [(0, 1, (.t 20)), (1, 1, (.t 21)), (4, 1, (.t 22))]),
  ei 24 (.box (.t 23)),
  fi 4 (.mv (.t 24)),
  fi 5 (.mv (.c (.int .i64 0)))])
 .ret)))
theorem k_index_New : chkFn Tryz.prog n_index_New ⟨b_index_New, [.tmp 4, .tmp 5], 25⟩ = true := by kernel_rfl
abbrev n_match_Form : Nat := 34
def l_match_Form_0 : Cd := (.seq (.reg [] [fi 8 (.bin .lss (.t 7) (.t 6))])
 (.seq (.ite (.t 8)
 .skip
 (.exit 0))
 (.seq (.blk 1 (.seq (.reg [] [fi 9 (.mv (.t 7)),
  fi 3 (.mv (.t 9))])
 (.seq (.reg [] [fi 10 (.fieldAddr 0 (.t 1)),
  fi 11 (.load false 1 (.t 10)),
  fi 12 (.mv (.t 3)),
  fi 13 (.indexS (.t 11) (.t 12)),
  fi 14 (.bin .leq (.t 13) (.c (.int .u8 32))),
  fi 15 (.mv (.t 14)),
  .run ⟨(some 16), (some (15, false)), .f (.fieldAddr 0 (.t 1))⟩,
  .run ⟨(some 17), (some (15, false)), .f (.load false 1 (.t 16))⟩,
  .run ⟨(some 18), (some (15, false)), .f (.mv (.t 3))⟩,
  .run ⟨(some 19), (some (15, false)), .f (.indexS (.t 17) (.t 18))⟩,
  .run ⟨(some 20), (some (15, false)), .f (.bin .gtr (.t 19) (.c (.int .u8 126)))⟩,
  fi 21 (.pick (.t 15) (.c (.bool true)) (.t 20))])
 (.ite (.t 21)
 (.seq (.reg [] [fi 2 (.mv (.c (.bool false)))])
 .ret)
 .skip))))
 (.reg [] [fi 22 (.bin .add (.t 7) (.c (.int .i64 1))),
  fi 7 (.mv (.t 22))]))))
def s_match_Form_0 : Cd := (.seq (.reg [] [fi 23 (.fieldAddr 0 (.t 1)),
  fi 24 (.load false 1 (.t 23)),
  fi 25 (.len .str (.t 24)),
  fi 26 (.bin .geq (.t 25) (.c (.int .i64 1))),
  fi 27 (.mv (.t 26)),
  .run ⟨(some 28), (some (27, true)), .f (.fieldAddr 0 (.t 1))⟩,
  .run ⟨(some 29), (some (27, true)), .f (.load false 1 (.t 28))⟩,
  .run ⟨(some 30), (some (27, true)), .f (.len .str (.t 29))⟩,
  .run ⟨(some 31), (some (27, true)), .f (.bin .leq (.t 30) (.c (.int .i64 32)))⟩,
  fi 32 (.pick (.t 27) (.t 31) (.c (.bool false))),
  fi 33 (.mv (.t 32)),
  .run ⟨(some 34), (some (33, true)), .f (.fieldAddr 2 (.t 1))⟩,
  .run ⟨(some 35), (some (33, true)), .f (.load false 1 (.t 34))⟩,
  .run ⟨(some 36), (some (33, true)), .f (.len .str (.t 35))⟩,
  .run ⟨(some 37), (some (33, true)), .f (.bin .leq (.t 36) (.c (.int .i64 512)))⟩,
  fi 38 (.pick (.t 33) (.t 37) (.c (.bool false))),
  fi 2 (.mv (.t 38))])
 .ret)
def b_match_Form : Cd := (.seq (.reg [] [ei 1 (.box (.t 0)),
  fi 2 (.mv (.c (.bool false)))])
 (.seq (.seq (.reg [] [fi 4 (.fieldAddr 0 (.t 1)),
  fi 5 (.load false 1 (.t 4)),
  fi 6 (.len .str (.t 5)),
  fi 7 (.mv (.c (.int .i64 0)))])
 (.blk 0 (.loop l_match_Form_0)))
 s_match_Form_0))
theorem k_match_Form : chkFn Tryz.prog n_match_Form ⟨b_match_Form, [.tmp 2], 39⟩ = true := by kernel_rfl
abbrev n_merge_Merge : Nat := 142
def l_merge_Merge_0 : Cd := (.seq (.reg [] [fi 27 (.bin .lss (.t 26) (.t 25))])
 (.seq (.ite (.t 27)
 .skip
 (.exit 2))
 (.seq (.blk 3 (.seq (.reg [] [fi 28 (.mv (.t 26)),
  fi 10 (.mv (.t 28))])
 (.seq (.reg [0, 1, 2, 3, 4, 5, 6, 7, 8, 9, 10, 11, 12, 13, 14] [fi 29 (.mv (.t 10)),
  fi 30 (.bin .gtr (.t 29) (.c (.int .i64 0))),
  fi 31 (.mv (.t 30)),
  .run ⟨(some 32), (some (31, true)), .f (.mv (.t 9))⟩,
  .run ⟨(some 33), (some (31, true)), .f (.mv (.t 10))⟩,
  .run ⟨(some 34), (some (31, true)), .f (.bin .sub (.t 33) (.c (.int .i64 1)))⟩,
  .run ⟨(some 35), (some (31, true)), .f (.indexAddr 3 (.t 32) (.t 34))⟩,
  .run ⟨(some 36), (some (31, true)), .f (.load true 3 (.t 35))⟩,
  .run ⟨(some 37), (some (31, true)), .f (.mv (.t 9))⟩,
  .run ⟨(some 38), (some (31, true)), .f (.mv (.t 10))⟩,
  .run ⟨(some 39), (some (31, true)), .f (.indexAddr 3 (.t 37) (.t 38))⟩,
  .run ⟨(some 40), (some (31, true)), .f (.load true 3 (.t 39))⟩,
  .run ⟨(some 41), (some (31, true)), .e (.call 211 [(.t 36), (.t 40)])⟩,
  .run ⟨(some 42), (some (31, true)), .f (.bin .gtr (.t 41) (.c (.int .i64 0)))⟩,
  fi 43 (.pick (.t 31) (.t 42) (.c (.bool false)))])
 (.ite (.t 43)
 (.seq (.reg [] [fi 4 (.mv (.c (.sl [] 0 3 .nil))),
  fi 5 (.mv (.c (.bool false))),
  fi 6 (.mv (.c (.int .i64 3)))])
 .ret)
 .skip))))
 (.reg [] [fi 44 (.bin .add (.t 26) (.c (.int .i64 1))),
  fi 26 (.mv (.t 44))]))))
def s_merge_Merge_0 : Cd := (.seq (.reg [] [fi 45 (.mv (.t 9)),
  fi 46 (.len .sl (.t 45)),
  fi 47 (.bin .gtr (.t 46) (.c (.int .i64 0)))])
 (.ite (.t 47)
 (.reg [] [fi 48 (.mv (.t 7)),
  fi 49 (.mkIface 311 (.t 48)),
  fi 50 (.mv (.t 9)),
  fi 51 (.mv (.t 8)),
  fi 52 (.build [(.sl [] 0 3 .nil), (.int .i64 0)] [(0, 1, (.t 50)), (1, 1, (.t 51))]),
  fi 53 (.mkIface 317 (.t 52)),
  ei 54 (.call 212 [(.t 49), (.t 53)])])
 .skip))
def l_merge_Merge_1 : Cd := (.seq (.reg [] [fi 20 (.bin .lss (.t 19) (.t 18))])
 (.seq (.ite (.t 20)
 .skip
 (.exit 0))
 (.seq (.blk 1 (.seq (.reg [] [fi 21 (.mv (.t 19)),
  fi 22 (.indexAddr 1 (.t 17) (.t 19)),
  fi 23 (.load false 1 (.t 22)),
  fi 8 (.mv (.t 21)),
  fi 9 (.mv (.t 23))])
 (.seq (.seq (.reg [] [fi 24 (.mv (.t 9)),
  fi 25 (.len .sl (.t 24)),
  fi 26 (.mv (.c (.int .i64 0)))])
 (.blk 2 (.loop l_merge_Merge_0)))
 s_merge_Merge_0)))
 (.reg [] [fi 55 (.bin .add (.t 19) (.c (.int .i64 1))),
  fi 19 (.mv (.t 55))]))))
def k_merge_Merge_0 : Cd := (.seq (.reg [] [fi 67 (.mv (.t 7)),
  fi 68 (.mkIface 311 (.t 67)),
  ei 69 (.call 214 [(.t 68)]),
  fi 70 (.assertT 317 false (.agg [(.sl [] 0 3 .nil), (.int .i64 0)]) (.t 69)),
  ei 12 (.alloc [(.sl [] 0 3 .nil), (.int .i64 0)]),
  st (.store 2 (.t 12) (.t 70))])
 (.seq (.reg [] [fi 71 (.mv (.t 11)),
  fi 72 (.fieldAddr 0 (.t 12)),
  fi 73 (.load false 1 (.t 72)),
  fi 74 (.indexAddr 3 (.t 73) (.c (.int .i64 0))),
  fi 75 (.load true 3 (.t 74)),
  ei 76 (.buildSlice 1 3 0 [(.str (mkS [])), (.int .i64 0), (.str (mkS []))] [(0, 3, (.t 75))]),
  ei 77 (.append 3 40 false (.t 71) (.t 76)),
  fi 11 (.mv (.t 77))])
 (.seq (.reg [] [fi 78 (.fieldAddr 0 (.t 12)),
  fi 79 (.load false 1 (.t 78)),
  fi 80 (.len .sl (.t 79)),
  fi 81 (.bin .gtr (.t 80) (.c (.int .i64 1)))])
 (.ite (.t 81)
 (.reg [0, 1, 2, 3, 4, 5, 6, 7, 8, 9] [fi 82 (.mv (.t 7)),
  fi 83 (.mkIface 311 (.t 82)),
  fi 84 (.fieldAddr 0 (.t 12)),
  fi 85 (.load false 1 (.t 84)),
  fi 86 (.slice 3 (.t 85) (some (.c (.int .i64 1))) none none),
  fi 87 (.fieldAddr 1 (.t 12)),
  fi 88 (.load false 1 (.t 87)),
  fi 89 (.build [(.sl [] 0 3 .nil), (.int .i64 0)] [(0, 1, (.t 86)), (1, 1, (.t 88))]),
  fi 90 (.mkIface 317 (.t 89)),
  ei 91 (.call 212 [(.t 83), (.t 90)])])
 .skip))))
def l_merge_Merge_2 : Cd := (.seq (.seq (.reg [] [fi 56 (.mv (.t 7)),
  fi 57 (.nilCheck (.t 56)),
  fi 58 (.load false 1 (.t 57)),
  ei 59 (.call 213 [(.t 58)]),
  fi 60 (.bin .gtr (.t 59) (.c (.int .i64 0))),
  fi 61 (.mv (.t 60)),
  .run ⟨(some 62), (some (61, true)), .f (.mv (.t 11))⟩,
  .run ⟨(some 63), (some (61, true)), .f (.len .sl (.t 62))⟩,
  .run ⟨(some 64), (some (61, true)), .f (.mv (.t 1))⟩,
  .run ⟨(some 65), (some (61, true)), .f (.bin .lss (.t 63) (.t 64))⟩,
  fi 66 (.pick (.t 61) (.t 65) (.c (.bool false)))])
 (.ite (.t 66)
 .skip
 (.exit 4)))
 (.blk 5 k_merge_Merge_0))
def s_merge_Merge_1 : Cd := (.seq (.reg [] [fi 92 (.mv (.t 11)),
  fi 93 (.mv (.t 7)),
  fi 94 (.nilCheck (.t 93)),
  fi 95 (.load false 1 (.t 94)),
  ei 96 (.call 213 [(.t 95)]),
  fi 97 (.bin .gtr (.t 96) (.c (.int .i64 0))),
  fi 4 (.mv (.t 92)),
  fi 5 (.mv (.t 97)),
  fi 6 (.mv (.c (.int .i64 0)))])
 .ret)
def b_merge_Merge : Cd := (.seq (.reg [] [fi 4 (.mv (.c (.sl [] 0 3 .nil))),
  fi 5 (.mv (.c (.bool false))),
  fi 6 (.mv (.c (.int .i64 0)))])
 (.seq (.seq (.reg [] [fi 13 (.mv (.t 1)),
  fi 14 (.bin .lss (.t 13) (.c (.int .i64 0)))])
 (.ite (.t 14)
 (.seq (.reg [] [fi 4 (.mv (.c (.sl [] 0 3 .nil))),
  fi 5 (.mv (.c (.bool false))),
  fi 6 (.mv (.c (.int .i64 1)))])
 .ret)
 .skip))
 (.seq (.reg [] [ei 15 (.buildSlice 0 2 0 [] []),
  ei 16 (.box (.t 15)),
  fi 7 (.mv (.t 16))])
 (.seq (.seq (.reg [] [fi 17 (.mv (.t 0)),
  fi 18 (.len .sl (.t 17)),
  fi 19 (.mv (.c (.int .i64 0)))])
 (.blk 0 (.loop l_merge_Merge_1)))
 (.seq (.reg [] [fi 11 (.mv (.c (.sl [] 0 3 .nil)))])
 (.seq (.blk 4 (.loop l_merge_Merge_2))
 s_merge_Merge_1))))))
theorem k_merge_Merge : chkFn Tryz.prog n_merge_Merge ⟨b_merge_Merge, [.tmp 4, .tmp 5, .tmp 6], 98⟩ = true := by kernel_rfl
abbrev n_merge_lines_Len : Nat := 213
def b_merge_lines_Len : Cd := (.seq (.reg [] [fi 2 (.mv (.c (.int .i64 0)))])
 (.seq (.reg [] [fi 3 (.mv (.t 0)),
  fi 4 (.len .sl (.t 3)),
  fi 2 (.mv (.t 4))])
 .ret))
theorem k_merge_lines_Len : chkFn Tryz.prog n_merge_lines_Len ⟨b_merge_lines_Len, [.tmp 2], 5⟩ = true := by kernel_rfl
abbrev n_meta_Decode : Nat := 109
def b_meta_Decode : Cd := (.seq (.reg [] [ei 2 (.alloc [(.int .u8 0), (.int .i64 0), (.int .i64 0), (.int .u64 0)]),
  fi 3 (.mv (.c (.int .i64 0)))])
 (.seq (.seq (.reg [] [fi 10 (.mv (.t 0)),
  fi 11 (.len .sl (.t 10)),
  fi 12 (.bin .lss (.t 11) (.c (.int .i64 4)))])
 (.ite (.t 12)
 (.seq (.reg [] [fi 13 (.build [(.int .u8 0), (.int .i64 0), (.int .i64 0), (.int .u64 0)] []),
  st (.store 4 (.t 2) (.t 13)),
  fi 3 (.mv (.c (.int .i64 3)))])
 .ret)
 .skip))
 (.seq (.reg [] [fi 15 (.mv (.t 0)),
  ei 16 (.call 94 [(.t 15), (.c (.int .i64 3))]),
  fi 14 (.mv (.t 16)),
  fi 17 (.extract (.t 14) 0),
  fi 18 (.extract (.t 14) 1),
  fi 19 (.extract (.t 14) 2),
  fi 4 (.mv (.t 17)),
  fi 5 (.mv (.t 18)),
  fi 6 (.mv (.t 19))])
 (.seq (.reg [0, 1, 2, 3, 4, 5, 6, 7, 8, 9, 10, 11, 12, 13, 2, 5, 9, 14] [fi 20 (.mv (.t 0)),
  fi 21 (.indexAddr 1 (.t 20) (.c (.int .i64 0))),
  fi 22 (.load false 1 (.t 21)),
  fi 23 (.mv (.t 0)),
  fi 24 (.indexAddr 1 (.t 23) (.c (.int .i64 1))),
  fi 25 (.load false 1 (.t 24)),
  fi 26 (.conv (.int .i64) (.t 25)),
  fi 27 (.mv (.t 0)),
  fi 28 (.indexAddr 1 (.t 27) (.c (.int .i64 2))),
  fi 29 (.load false 1 (.t 28)),
  fi 30 (.conv (.int .i64) (.t 29)),
  fi 31 (.mv (.t 4)),
  fi 32 (.build [(.int .u8 0), (.int .i64 0), (.int .i64 0), (.int .u64 0)] [(0, 1, (.t 22)), (1, 1, (.t 26)), (2, 1, (.t 30)), (3, 1, (.t 31))]),
  ei 7 (.alloc [(.int .u8 0), (.int .i64 0), (.int .i64 0), (.int .u64 0)]),
  .chk 22 none (.load false 1 (.t 21)),
  .chk 25 none (.load false 1 (.t 24)),
  .chk 29 none (.load false 1 (.t 28)),
  st (.store 4 (.t 7) (.t 32))])
 (.seq (.seq (.reg [] [fi 33 (.mv (.t 6)),
  fi 34 (.bin .neq (.t 33) (.c (.int .i64 0))),
  fi 35 (.mv (.t 34)),
  .run ⟨(some 36), (some (35, false)), .f (.mv (.t 5))⟩,
  .run ⟨(some 37), (some (35, false)), .f (.mv (.t 0))⟩,
  .run ⟨(some 38), (some (35, false)), .f (.len .sl (.t 37))⟩,
  .run ⟨(some 39), (some (35, false)), .f (.bin .neq (.t 36) (.t 38))⟩,
  fi 40 (.pick (.t 35) (.c (.bool true)) (.t 39))])
 (.ite (.t 40)
 (.seq (.reg [] [fi 41 (.build [(.int .u8 0), (.int .i64 0), (.int .i64 0), (.int .u64 0)] []),
  st (.store 4 (.t 2) (.t 41)),
  fi 3 (.mv (.c (.int .i64 3)))])
 .ret)
 .skip))
 (.seq (.seq (.reg [] [fi 43 (.load true 4 (.t 7)),
  ei 44 (.call 128 [(.t 43)]),
  fi 42 (.mv (.t 44)),
  fi 45 (.extract (.t 42) 0),
  fi 46 (.extract (.t 42) 1),
  fi 8 (.mv (.t 45)),
  fi 9 (.mv (.t 46))])
 (.seq (.reg [] [fi 47 (.mv (.t 9)),
  fi 48 (.bin .neq (.t 47) (.c (.int .i64 0)))])
 (.ite (.t 48)
 (.seq (.reg [] [fi 49 (.build [(.int .u8 0), (.int .i64 0), (.int .i64 0), (.int .u64 0)] []),
  fi 50 (.mv (.t 9)),
  st (.store 4 (.t 2) (.t 49)),
  fi 3 (.mv (.t 50))])
 .ret)
 .skip)))
 (.seq (.reg [] [fi 51 (.load true 4 (.t 7)),
  st (.store 4 (.t 2) (.t 51)),
  fi 3 (.mv (.c (.int .i64 0)))])
 .ret)))))))
theorem k_meta_Decode : chkFn Tryz.prog n_meta_Decode ⟨b_meta_Decode, [.cell 2 true 4, .tmp 3], 52⟩ = true := by kernel_rfl
abbrev n_meta_New : Nat := 23
def l_meta_New_0 : Cd := (.seq (.reg [] [fi 48 (.bin .lss (.t 47) (.t 46))])
 (.seq (.ite (.t 48)
 .skip
 (.exit 2))
 (.seq (.blk 3 (.seq (.reg [] [fi 49 (.mv (.t 47)),
  fi 11 (.mv (.t 49))])
 (.reg [0, 1, 2, 3, 4, 5, 6, 7, 1, 8, 9, 10] [fi 50 (.fieldAddr 3 (.t 10)),
  fi 51 (.load false 1 (.t 50)),
  fi 52 (.mv (.t 9)),
  fi 53 (.mv (.t 11)),
  fi 54 (.bin .add (.t 52) (.t 53)),
  fi 55 (.mv (.t 0)),
  fi 56 (.bin .rem (.t 54) (.t 55)),
  ei 57 (.buildSlice 1 1 0 [(.int .i64 0)] [(0, 1, (.t 56))]),
  .chk 51 none (.load false 1 (.t 50)),
  ei 58 (.append 1 8 true (.t 51) (.t 57)),
  fi 59 (.fieldAddr 3 (.t 10)),
  st (.store 1 (.t 59) (.t 58))])))
 (.reg [] [fi 60 (.bin .add (.t 47) (.c (.int .i64 1))),
  fi 47 (.mv (.t 60))]))))
def s_meta_New_0 : Cd := (.seq (.reg [] [fi 61 (.fieldAddr 3 (.t 10)),
  fi 62 (.load false 1 (.t 61)),
  ei 63 (.call 44 [(.t 62)])])
 (.reg [] [fi 64 (.fieldAddr 1 (.t 8)),
  fi 65 (.load false 1 (.t 64)),
  fi 66 (.load true 4 (.t 10)),
  ei 67 (.buildSlice 1 4 0 [(.int .u64 0), (.int .u64 0), (.int .i64 0), (.sl [] 0 1 .nil)] [(0, 4, (.t 66))]),
  ei 68 (.append 4 48 false (.t 65) (.t 67)),
  fi 69 (.fieldAddr 1 (.t 8)),
  st (.store 1 (.t 69) (.t 68))]))
def l_meta_New_1 : Cd := (.seq (.reg [] [fi 40 (.bin .lss (.t 39) (.t 38))])
 (.seq (.ite (.t 40)
 .skip
 (.exit 0))
 (.seq (.blk 1 (.seq (.reg [] [fi 41 (.mv (.t 39)),
  fi 9 (.mv (.t 41))])
 (.seq (.reg [] [fi 42 (.mv (.t 9)),
  fi 43 (.mv (.t 0)),
  fi 44 (.bin .rem (.t 42) (.t 43)),
  fi 45 (.build [(.int .u64 0), (.int .u64 0), (.int .i64 0), (.sl [] 0 1 .nil)] [(1, 1, (.c (.int .u64 1))), (2, 1, (.t 44))]),
  ei 10 (.alloc [(.int .u64 0), (.int .u64 0), (.int .i64 0), (.sl [] 0 1 .nil)]),
  st (.store 4 (.t 10) (.t 45))])
 (.seq (.seq (.reg [] [fi 46 (.mv (.t 2)),
  fi 47 (.mv (.c (.int .i64 0)))])
 (.blk 2 (.loop l_meta_New_0)))
 s_meta_New_0))))
 (.reg [] [fi 70 (.bin .add (.t 39) (.c (.int .i64 1))),
  fi 39 (.mv (.t 70))]))))
def b_meta_New : Cd := (.seq (.reg [] [ei 6 (.alloc [(.int .i64 0), (.sl [] 0 4 .nil)]),
  fi 7 (.mv (.c (.int .i64 0)))])
 (.seq (.seq (.reg [] [fi 12 (.mv (.t 0)),
  fi 13 (.bin .lss (.t 12) (.c (.int .i64 1))),
  fi 14 (.mv (.t 13)),
  .run ⟨(some 15), (some (14, false)), .f (.mv (.t 0))⟩,
  .run ⟨(some 16), (some (14, false)), .f (.bin .gtr (.t 15) (.c (.int .i64 5)))⟩,
  fi 17 (.pick (.t 14) (.c (.bool true)) (.t 16)),
  fi 18 (.mv (.t 17)),
  .run ⟨(some 19), (some (18, false)), .f (.mv (.t 1))⟩,
  .run ⟨(some 20), (some (18, false)), .f (.bin .lss (.t 19) (.c (.int .i64 1)))⟩,
  fi 21 (.pick (.t 18) (.c (.bool true)) (.t 20)),
  fi 22 (.mv (.t 21)),
  .run ⟨(some 23), (some (22, false)), .f (.mv (.t 1))⟩,
  .run ⟨(some 24), (some (22, false)), .f (.bin .gtr (.t 23) (.c (.int .i64 8)))⟩,
  fi 25 (.pick (.t 22) (.c (.bool true)) (.t 24)),
  fi 26 (.mv (.t 25)),
  .run ⟨(some 27), (some (26, false)), .f (.mv (.t 2))⟩,
  .run ⟨(some 28), (some (26, false)), .f (.bin .lss (.t 27) (.c (.int .i64 1)))⟩,
  fi 29 (.pick (.t 26) (.c (.bool true)) (.t 28)),
  fi 30 (.mv (.t 29)),
  .run ⟨(some 31), (some (30, false)), .f (.mv (.t 2))⟩,
  .run ⟨(some 32), (some (30, false)), .f (.mv (.t 0))⟩,
  .run ⟨(some 33), (some (30, false)), .f (.bin .gtr (.t 31) (.t 32))⟩,
  fi 34 (.pick (.t 30) (.c (.bool true)) (.t 33))])
 (.ite (.t 34)
 (.seq (.reg [] [fi 35 (.build [(.int .i64 0), (.sl [] 0 4 .nil)] []),
  st (.store 2 (.t 6) (.t 35)),
  fi 7 (.mv (.c (.int .i64 1)))])
 .ret)
 .skip))
 (.seq (.reg [] [fi 36 (.mv (.t 0)),
  fi 37 (.build [(.int .i64 0), (.sl [] 0 4 .nil)] [(0, 1, (.t 36))]),
  ei 8 (.alloc [(.int .i64 0), (.sl [] 0 4 .nil)]),
  st (.store 2 (.t 8) (.t 37))])
 (.seq (.seq (.reg [] [fi 38 (.mv (.t 1)),
  fi 39 (.mv (.c (.int .i64 0)))])
 (.blk 0 (.loop l_meta_New_1)))
 (.seq (.reg [] [fi 71 (.load true 2 (.t 8)),
  st (.store 2 (.t 6) (.t 71)),
  fi 7 (.mv (.c (.int .i64 0)))])
 .ret)))))
theorem k_meta_New : chkFn Tryz.prog n_meta_New ⟨b_meta_New, [.cell 6 true 2, .tmp 7], 72⟩ = true := by kernel_rfl
abbrev n_query_Parse : Nat := 37
def b_query_Parse : Cd := (.seq (.reg [] [ei 2 (.alloc [(.int .u8 0), (.str (mkS [])), (.int .i64 0), (.sl [] 0 4 .nil)]),
  ei 3 (.alloc [(.int .i64 0)]),
  ei 4 (.alloc [(.int .i64 0)])])
 (.seq (.seq (.reg [] [fi 6 (.mv (.t 0)),
  fi 7 (.len .str (.t 6)),
  fi 8 (.bin .gtr (.t 7) (.c (.int .i64 512)))])
 (.ite (.t 8)
 (.seq (.reg [] [fi 9 (.build [(.int .u8 0), (.str (mkS [])), (.int .i64 0), (.sl [] 0 4 .nil)] []),
  st (.store 4 (.t 2) (.t 9)),
  st (.store 1 (.t 3) (.c (.int .i64 0))),
  st (.store 1 (.t 4) (.c (.int .i64 2)))])
 .ret)
 .skip))
 (.seq (.reg [] [fi 10 (.mkFunc 68 [] [(.t 2), (.t 3), (.t 4)])])
 (.seq (.reg [] [fi 11 (.mv (.t 0)),
  fi 12 (.build [(.str (mkS [])), (.int .i64 0), (.int .i64 0)] [(0, 1, (.t 11))]),
  ei 13 (.box (.t 12)),
  fi 5 (.mv (.t 13))])
 (.seq (.reg [] [fi 14 (.mv (.t 5)),
  ei 15 (.call 69 [(.t 14)]),
  st (.store 4 (.t 2) (.t 15))])
 (.seq (.reg [] [fi 16 (.mv (.t 5)),
  ei 17 (.call 70 [(.t 16)])])
 (.seq (.seq (.reg [] [fi 18 (.mv (.t 5)),
  fi 19 (.nilCheck (.t 18)),
  fi 20 (.fieldAddr 1 (.t 19)),
  fi 21 (.load false 1 (.t 20)),
  fi 22 (.mv (.t 0)),
  fi 23 (.len .str (.t 22)),
  fi 24 (.bin .lss (.t 21) (.t 23))])
 (.ite (.t 24)
 (.reg [] [fi 25 (.mv (.t 5)),
  fi 26 (.nilCheck (.t 25)),
  fi 27 (.fieldAddr 1 (.t 26)),
  fi 28 (.load false 1 (.t 27)),
  ei 29 (.call 71 [(.t 28), (.c (.int .i64 4))])])
 .skip))
 (.seq (.reg [] [fi 30 (.load true 4 (.t 2)),
  st (.store 4 (.t 2) (.t 30)),
  st (.store 1 (.t 3) (.c (.int .i64 0))),
  st (.store 1 (.t 4) (.c (.int .i64 0)))])
 .ret))))))))
theorem k_query_Parse : chkFnD Tryz.prog n_query_Parse 68 ⟨b_query_Parse, [.cell 2 true 4, .cell 3 false 1, .cell 4 false 1], 31⟩ = true := by kernel_rfl
abbrev n_query_list : Nat := 120
def b_query_list : Cd := (.seq (.reg [] [ei 4 (.alloc [(.int .u8 0), (.str (mkS [])), (.int .i64 0), (.sl [] 0 4 .nil)])])
 (.seq (.seq (.reg [] [fi 5 (.mv (.t 1)),
  fi 6 (.len .sl (.t 5)),
  fi 7 (.bin .eql (.t 6) (.c (.int .i64 1)))])
 (.ite (.t 7)
 (.seq (.reg [] [fi 8 (.mv (.t 1)),
  fi 9 (.indexAddr 4 (.t 8) (.c (.int .i64 0))),
  fi 10 (.load true 4 (.t 9)),
  st (.store 4 (.t 4) (.t 10))])
 .ret)
 .skip))
 (.seq (.reg [] [fi 11 (.mv (.t 0)),
  fi 12 (.mv (.t 1)),
  fi 13 (.build [(.int .u8 0), (.str (mkS [])), (.int .i64 0), (.sl [] 0 4 .nil)] [(0, 1, (.t 11)), (3, 1, (.t 12))]),
  st (.store 4 (.t 4) (.t 13))])
 .ret)))
theorem k_query_list : chkFn Tryz.prog n_query_list ⟨b_query_list, [.cell 4 true 4], 14⟩ = true := by kernel_rfl
abbrev n_query_reader_and : Nat := 118
def k_query_reader_and_0 : Cd := (.seq (.reg [] [fi 7 (.mv (.t 0)),
  ei 8 (.call 70 [(.t 7)])])
 (.seq (.seq (.reg [0, 1, 2, 3, 4, 5, 6, 7, 8, 9, 10, 11, 12, 13, 14, 15, 16, 17, 18, 19, 20, 21, 22, 23, 24, 25, 26] [fi 9 (.mv (.t 0)),
  fi 10 (.nilCheck (.t 9)),
  fi 11 (.fieldAddr 1 (.t 10)),
  fi 12 (.load false 1 (.t 11)),
  fi 13 (.mv (.t 0)),
  fi 14 (.nilCheck (.t 13)),
  fi 15 (.fieldAddr 0 (.t 14)),
  fi 16 (.load false 1 (.t 15)),
  fi 17 (.len .str (.t 16)),
  fi 18 (.bin .geq (.t 12) (.t 17)),
  fi 19 (.mv (.t 18)),
  .run ⟨(some 20), (some (19, false)), .f (.mv (.t 0))⟩,
  .run ⟨(some 21), (some (19, false)), .e (.call 200 [(.t 20), (.c (.str (mkS [41])))])⟩,
  fi 22 (.pick (.t 19) (.c (.bool true)) (.t 21)),
  fi 23 (.mv (.t 22)),
  .run ⟨(some 24), (some (23, false)), .f (.mv (.t 0))⟩,
  .run ⟨(some 25), (some (23, false)), .e (.call 200 [(.t 24), (.c (.str (mkS [79, 82])))])⟩,
  .run ⟨(some 26), (some (23, false)), .f (.mv (.t 25))⟩,
  .run ⟨(some 27), (some (26, true)), .f (.mv (.t 0))⟩,
  .run ⟨(some 28), (some (26, true)), .f (.mv (.t 0))⟩,
  .run ⟨(some 29), (some (26, true)), .f (.nilCheck (.t 28))⟩,
  .run ⟨(some 30), (some (26, true)), .f (.fieldAddr 1 (.t 29))⟩,
  .run ⟨(some 31), (some (26, true)), .f (.load false 1 (.t 30))⟩,
  .run ⟨(some 32), (some (26, true)), .f (.bin .add (.t 31) (.c (.int .i64 2)))⟩,
  .run ⟨(some 33), (some (26, true)), .e (.call 201 [(.t 27), (.t 32)])⟩,
  .run ⟨(some 34), (some (23, false)), .f (.pick (.t 26) (.t 33) (.c (.bool false)))⟩,
  fi 35 (.pick (.t 23) (.c (.bool true)) (.t 34))])
 (.ite (.t 35)
 (.seq (.reg [] [fi 36 (.mv (.t 3)),
  ei 37 (.call 120 [(.c (.int .u8 3)), (.t 36)]),
  st (.store 4 (.t 2) (.t 37))])
 .ret)
 .skip))
 (.reg [] [fi 38 (.mv (.t 3)),
  fi 39 (.mv (.t 0)),
  ei 40 (.call 199 [(.t 39)]),
  ei 41 (.buildSlice 1 4 0 [(.int .u8 0), (.str (mkS [])), (.int .i64 0), (.sl [] 0 4 .nil)] [(0, 4, (.t 40))]),
  ei 42 (.append 4 56 false (.t 38) (.t 41)),
  fi 3 (.mv (.t 42))])))
def l_query_reader_and_0 : Cd := (.blk 1 k_query_reader_and_0)
def b_query_reader_and : Cd := (.seq (.reg [] [ei 2 (.alloc [(.int .u8 0), (.str (mkS [])), (.int .i64 0), (.sl [] 0 4 .nil)])])
 (.seq (.reg [] [fi 4 (.mv (.t 0)),
  ei 5 (.call 199 [(.t 4)]),
  ei 6 (.buildSlice 1 4 0 [(.int .u8 0), (.str (mkS [])), (.int .i64 0), (.sl [] 0 4 .nil)] [(0, 4, (.t 5))]),
  fi 3 (.mv (.t 6))])
 (.blk 0 (.loop l_query_reader_and_0))))
theorem k_query_reader_and : chkFn Tryz.prog n_query_reader_and ⟨b_query_reader_and, [.cell 2 true 4], 43⟩ = true := by kernel_rfl
abbrev n_query_reader_end : Nat := 201
def b_query_reader_end : Cd := (.seq (.reg [] [fi 4 (.mv (.c (.bool false)))])
 (.seq (.reg [] [fi 5 (.mv (.t 1)),
  fi 6 (.mv (.t 0)),
  fi 7 (.nilCheck (.t 6)),
  fi 8 (.fieldAddr 0 (.t 7)),
  fi 9 (.load false 1 (.t 8)),
  fi 10 (.len .str (.t 9)),
  fi 11 (.bin .geq (.t 5) (.t 10)),
  fi 12 (.mv (.t 11)),
  .run ⟨(some 13), (some (12, false)), .f (.mv (.t 0))⟩,
  .run ⟨(some 14), (some (12, false)), .f (.nilCheck (.t 13))⟩,
  .run ⟨(some 15), (some (12, false)), .f (.fieldAddr 0 (.t 14))⟩,
  .run ⟨(some 16), (some (12, false)), .f (.load false 1 (.t 15))⟩,
  .run ⟨(some 17), (some (12, false)), .f (.mv (.t 1))⟩,
  .run ⟨(some 18), (some (12, false)), .f (.indexS (.t 16) (.t 17))⟩,
  .run ⟨(some 19), (some (12, false)), .e (.call 251 [(.c (.str (mkS [32, 40, 41]))), (.t 18)])⟩,
  .run ⟨(some 20), (some (12, false)), .f (.bin .geq (.t 19) (.c (.int .i64 0)))⟩,
  fi 21 (.pick (.t 12) (.c (.bool true)) (.t 20)),
  fi 4 (.mv (.t 21))])
 .ret))
theorem k_query_reader_end : chkFn Tryz.prog n_query_reader_end ⟨b_query_reader_end, [.tmp 4], 22⟩ = true := by kernel_rfl
abbrev n_query_reader_is : Nat := 200
def b_query_reader_is : Cd := (.seq (.reg [] [fi 4 (.mv (.c (.bool false)))])
 (.seq (.reg [0, 1, 2, 3, 4, 5, 6, 7, 8, 9, 10, 11] [fi 5 (.mv (.t 0)),
  fi 6 (.nilCheck (.t 5)),
  fi 7 (.fieldAddr 0 (.t 6)),
  fi 8 (.load false 1 (.t 7)),
  fi 9 (.mv (.t 0)),
  fi 10 (.nilCheck (.t 9)),
  fi 11 (.fieldAddr 1 (.t 10)),
  fi 12 (.load false 1 (.t 11)),
  fi 13 (.sliceS (.t 8) (some (.t 12)) none),
  fi 14 (.mv (.t 1)),
  ei 15 (.call 250 [(.t 13), (.t 14)]),
  fi 4 (.mv (.t 15))])
 .ret))
theorem k_query_reader_is : chkFn Tryz.prog n_query_reader_is ⟨b_query_reader_is, [.tmp 4], 16⟩ = true := by kernel_rfl
abbrev n_query_reader_key : Nat := 119
def b_query_reader_key : Cd := (.seq (.reg [] [fi 4 (.mv (.c (.bool false)))])
 (.seq (.reg [] [fi 5 (.mv (.t 0)),
  ei 6 (.call 70 [(.t 5)])])
 (.seq (.seq (.reg [] [fi 7 (.mv (.t 0)),
  fi 8 (.mv (.t 1)),
  ei 9 (.call 200 [(.t 7), (.t 8)]),
  fi 10 (.un .not (.t 9)),
  fi 11 (.mv (.t 10)),
  .run ⟨(some 12), (some (11, false)), .f (.mv (.t 0))⟩,
  .run ⟨(some 13), (some (11, false)), .f (.mv (.t 0))⟩,
  .run ⟨(some 14), (some (11, false)), .f (.nilCheck (.t 13))⟩,
  .run ⟨(some 15), (some (11, false)), .f (.fieldAddr 1 (.t 14))⟩,
  .run ⟨(some 16), (some (11, false)), .f (.load false 1 (.t 15))⟩,
  .run ⟨(some 17), (some (11, false)), .f (.mv (.t 1))⟩,
  .run ⟨(some 18), (some (11, false)), .f (.len .str (.t 17))⟩,
  .run ⟨(some 19), (some (11, false)), .f (.bin .add (.t 16) (.t 18))⟩,
  .run ⟨(some 20), (some (11, false)), .e (.call 201 [(.t 12), (.t 19)])⟩,
  .run ⟨(some 21), (some (11, false)), .f (.un .not (.t 20))⟩,
  fi 22 (.pick (.t 11) (.c (.bool true)) (.t 21))])
 (.ite (.t 22)
 (.seq (.reg [] [fi 4 (.mv (.c (.bool false)))])
 .ret)
 .skip))
 (.seq (.reg [] [fi 23 (.mv (.t 0)),
  fi 24 (.nilCheck (.t 23)),
  fi 25 (.fieldAddr 1 (.t 24)),
  fi 26 (.load false 1 (.t 25)),
  fi 27 (.mv (.t 1)),
  fi 28 (.len .str (.t 27)),
  fi 29 (.bin .add (.t 26) (.t 28)),
  fi 30 (.nilCheck (.t 23)),
  fi 31 (.fieldAddr 1 (.t 30)),
  st (.store 1 (.t 31) (.t 29))])
 (.seq (.reg [] [fi 4 (.mv (.c (.bool true)))])
 .ret)))))
theorem k_query_reader_key : chkFn Tryz.prog n_query_reader_key ⟨b_query_reader_key, [.tmp 4], 32⟩ = true := by kernel_rfl
abbrev n_query_reader_not : Nat := 199
def b_query_reader_not : Cd := (.seq (.reg [] [ei 2 (.alloc [(.int .u8 0), (.str (mkS [])), (.int .i64 0), (.sl [] 0 4 .nil)])])
 (.seq (.reg [] [fi 6 (.mv (.t 0)),
  ei 7 (.call 70 [(.t 6)])])
 (.seq (.reg [] [fi 8 (.mv (.t 0)),
  fi 9 (.nilCheck (.t 8)),
  fi 10 (.fieldAddr 1 (.t 9)),
  fi 11 (.load false 1 (.t 10)),
  fi 3 (.mv (.t 11))])
 (.seq (.seq (.reg [] [fi 12 (.mv (.t 0)),
  ei 13 (.call 119 [(.t 12), (.c (.str (mkS [78, 79, 84])))])])
 (.ite (.t 13)
 (.seq (.reg [] [fi 14 (.mv (.t 0)),
  fi 15 (.mv (.t 3)),
  ei 16 (.call 248 [(.t 14), (.t 15)])])
 (.seq (.reg [] [fi 17 (.mv (.t 0)),
  ei 18 (.call 199 [(.t 17)]),
  ei 19 (.buildSlice 1 4 0 [(.int .u8 0), (.str (mkS [])), (.int .i64 0), (.sl [] 0 4 .nil)] [(0, 4, (.t 18))]),
  fi 20 (.build [(.int .u8 0), (.str (mkS [])), (.int .i64 0), (.sl [] 0 4 .nil)] [(0, 1, (.c (.int .u8 5))), (3, 1, (.t 19))]),
  ei 4 (.alloc [(.int .u8 0), (.str (mkS [])), (.int .i64 0), (.sl [] 0 4 .nil)]),
  st (.store 4 (.t 4) (.t 20))])
 (.seq (.reg [] [fi 21 (.mv (.t 0)),
  fi 22 (.nilCheck (.t 21)),
  fi 23 (.fieldAddr 2 (.t 22)),
  fi 24 (.load false 1 (.t 23)),
  fi 25 (.bin .sub (.t 24) (.c (.int .i64 1))),
  fi 26 (.nilCheck (.t 21)),
  fi 27 (.fieldAddr 2 (.t 26)),
  st (.store 1 (.t 27) (.t 25))])
 (.seq (.reg [] [fi 28 (.load true 4 (.t 4)),
  st (.store 4 (.t 2) (.t 28))])
 .ret))))
 .skip))
 (.seq (.seq (.reg [] [fi 29 (.mv (.t 0)),
  ei 30 (.call 200 [(.t 29), (.c (.str (mkS [40])))]),
  fi 31 (.un .not (.t 30))])
 (.ite (.t 31)
 (.seq (.reg [] [fi 32 (.mv (.t 0)),
  ei 33 (.call 249 [(.t 32)]),
  st (.store 4 (.t 2) (.t 33))])
 .ret)
 .skip))
 (.seq (.reg [] [fi 34 (.mv (.t 0)),
  fi 35 (.mv (.t 3)),
  ei 36 (.call 248 [(.t 34), (.t 35)])])
 (.seq (.reg [] [fi 37 (.mv (.t 0)),
  fi 38 (.nilCheck (.t 37)),
  fi 39 (.fieldAddr 1 (.t 38)),
  fi 40 (.load false 1 (.t 39)),
  fi 41 (.bin .add (.t 40) (.c (.int .i64 1))),
  fi 42 (.nilCheck (.t 37)),
  fi 43 (.fieldAddr 1 (.t 42)),
  st (.store 1 (.t 43) (.t 41))])
 (.seq (.reg [] [fi 44 (.mv (.t 0)),
  ei 45 (.call 69 [(.t 44)]),
  ei 5 (.alloc [(.int .u8 0), (.str (mkS [])), (.int .i64 0), (.sl [] 0 4 .nil)]),
  st (.store 4 (.t 5) (.t 45))])
 (.seq (.reg [] [fi 46 (.mv (.t 0)),
  ei 47 (.call 70 [(.t 46)])])
 (.seq (.seq (.reg [] [fi 48 (.mv (.t 0)),
  ei 49 (.call 200 [(.t 48), (.c (.str (mkS [41])))]),
  fi 50 (.un .not (.t 49))])
 (.ite (.t 50)
 (.reg [] [fi 51 (.mv (.t 0)),
  fi 52 (.nilCheck (.t 51)),
  fi 53 (.fieldAddr 1 (.t 52)),
  fi 54 (.load false 1 (.t 53)),
  ei 55 (.call 71 [(.t 54), (.c (.int .i64 4))])])
 .skip))
 (.seq (.reg [] [fi 56 (.mv (.t 0)),
  fi 57 (.nilCheck (.t 56)),
  fi 58 (.fieldAddr 1 (.t 57)),
  fi 59 (.load false 1 (.t 58)),
  fi 60 (.bin .add (.t 59) (.c (.int .i64 1))),
  fi 61 (.nilCheck (.t 56)),
  fi 62 (.fieldAddr 1 (.t 61)),
  st (.store 1 (.t 62) (.t 60))])
 (.seq (.reg [] [fi 63 (.mv (.t 0)),
  fi 64 (.nilCheck (.t 63)),
  fi 65 (.fieldAddr 2 (.t 64)),
  fi 66 (.load false 1 (.t 65)),
  fi 67 (.bin .sub (.t 66) (.c (.int .i64 1))),
  fi 68 (.nilCheck (.t 63)),
  fi 69 (.fieldAddr 2 (.t 68)),
  st (.store 1 (.t 69) (.t 67))])
 (.seq (.reg [] [fi 70 (.load true 4 (.t 5)),
  st (.store 4 (.t 2) (.t 70))])
 .ret)))))))))))))
theorem k_query_reader_not : chkFn Tryz.prog n_query_reader_not ⟨b_query_reader_not, [.cell 2 true 4], 71⟩ = true := by kernel_rfl
abbrev n_query_reader_or : Nat := 69
def l_query_reader_or_0 : Cd := (.seq (.seq (.reg [] [fi 7 (.mv (.t 0)),
  ei 8 (.call 119 [(.t 7), (.c (.str (mkS [79, 82])))])])
 (.ite (.t 8)
 .skip
 (.exit 0)))
 (.blk 1 (.reg [] [fi 9 (.mv (.t 3)),
  fi 10 (.mv (.t 0)),
  ei 11 (.call 118 [(.t 10)]),
  ei 12 (.buildSlice 1 4 0 [(.int .u8 0), (.str (mkS [])), (.int .i64 0), (.sl [] 0 4 .nil)] [(0, 4, (.t 11))]),
  ei 13 (.append 4 56 false (.t 9) (.t 12)),
  fi 3 (.mv (.t 13))])))
def b_query_reader_or : Cd := (.seq (.reg [] [ei 2 (.alloc [(.int .u8 0), (.str (mkS [])), (.int .i64 0), (.sl [] 0 4 .nil)])])
 (.seq (.reg [] [fi 4 (.mv (.t 0)),
  ei 5 (.call 118 [(.t 4)]),
  ei 6 (.buildSlice 1 4 0 [(.int .u8 0), (.str (mkS [])), (.int .i64 0), (.sl [] 0 4 .nil)] [(0, 4, (.t 5))]),
  fi 3 (.mv (.t 6))])
 (.seq (.blk 0 (.loop l_query_reader_or_0))
 (.seq (.reg [] [fi 14 (.mv (.t 3)),
  ei 15 (.call 120 [(.c (.int .u8 4)), (.t 14)]),
  st (.store 4 (.t 2) (.t 15))])
 .ret))))
theorem k_query_reader_or : chkFn Tryz.prog n_query_reader_or ⟨b_query_reader_or, [.cell 2 true 4], 16⟩ = true := by kernel_rfl
abbrev n_query_reader_skip : Nat := 70
def l_query_reader_skip_0 : Cd := (.seq (.seq (.reg [0, 1, 2, 3, 4, 5, 6, 7, 8, 9, 10, 11, 12, 13, 14, 15, 16, 17, 18, 19, 20, 21] [fi 2 (.mv (.t 0)),
  fi 3 (.nilCheck (.t 2)),
  fi 4 (.fieldAddr 1 (.t 3)),
  fi 5 (.load false 1 (.t 4)),
  fi 6 (.mv (.t 0)),
  fi 7 (.nilCheck (.t 6)),
  fi 8 (.fieldAddr 0 (.t 7)),
  fi 9 (.load false 1 (.t 8)),
  fi 10 (.len .str (.t 9)),
  fi 11 (.bin .lss (.t 5) (.t 10)),
  fi 12 (.mv (.t 11)),
  .run ⟨(some 13), (some (12, true)), .f (.mv (.t 0))⟩,
  .run ⟨(some 14), (some (12, true)), .f (.nilCheck (.t 13))⟩,
  .run ⟨(some 15), (some (12, true)), .f (.fieldAddr 0 (.t 14))⟩,
  .run ⟨(some 16), (some (12, true)), .f (.load false 1 (.t 15))⟩,
  .run ⟨(some 17), (some (12, true)), .f (.mv (.t 0))⟩,
  .run ⟨(some 18), (some (12, true)), .f (.nilCheck (.t 17))⟩,
  .run ⟨(some 19), (some (12, true)), .f (.fieldAddr 1 (.t 18))⟩,
  .run ⟨(some 20), (some (12, true)), .f (.load false 1 (.t 19))⟩,
  .run ⟨(some 21), (some (12, true)), .f (.indexS (.t 16) (.t 20))⟩,
  .run ⟨(some 22), (some (12, true)), .f (.bin .eql (.t 21) (.c (.int .u8 32)))⟩,
  fi 23 (.pick (.t 12) (.t 22) (.c (.bool false)))])
 (.ite (.t 23)
 .skip
 (.exit 0)))
 (.blk 1 (.reg [] [fi 24 (.mv (.t 0)),
  fi 25 (.nilCheck (.t 24)),
  fi 26 (.fieldAddr 1 (.t 25)),
  fi 27 (.load false 1 (.t 26)),
  fi 28 (.bin .add (.t 27) (.c (.int .i64 1))),
  fi 29 (.nilCheck (.t 24)),
  fi 30 (.fieldAddr 1 (.t 29)),
  st (.store 1 (.t 30) (.t 28))])))
def b_query_reader_skip : Cd := (.blk 0 (.loop l_query_reader_skip_0))
theorem k_query_reader_skip : chkFn Tryz.prog n_query_reader_skip ⟨b_query_reader_skip, [], 31⟩ = true := by kernel_rfl
abbrev n_query_reader_word : Nat := 249
def l_query_reader_word_0 : Cd := (.seq (.seq (.reg [] [fi 11 (.mv (.t 0)),
  fi 12 (.mv (.t 0)),
  fi 13 (.nilCheck (.t 12)),
  fi 14 (.fieldAddr 1 (.t 13)),
  fi 15 (.load false 1 (.t 14)),
  ei 16 (.call 201 [(.t 11), (.t 15)]),
  fi 17 (.un .not (.t 16))])
 (.ite (.t 17)
 .skip
 (.exit 0)))
 (.blk 1 (.reg [] [fi 18 (.mv (.t 0)),
  fi 19 (.nilCheck (.t 18)),
  fi 20 (.fieldAddr 1 (.t 19)),
  fi 21 (.load false 1 (.t 20)),
  fi 22 (.bin .add (.t 21) (.c (.int .i64 1))),
  fi 23 (.nilCheck (.t 18)),
  fi 24 (.fieldAddr 1 (.t 23)),
  st (.store 1 (.t 24) (.t 22))])))
def i_query_reader_word_0 : Cd := (.seq (.reg [] [fi 45 (.mv (.t 4)),
  ei 46 (.call 282 [(.t 45)]),
  fi 44 (.mv (.t 46))])
 (.ite (.t 44)
 (.seq (.reg [] [fi 47 (.mv (.t 4)),
  fi 48 (.build [(.int .u8 0), (.str (mkS [])), (.int .i64 0), (.sl [] 0 4 .nil)] [(0, 1, (.c (.int .u8 2))), (1, 1, (.t 47))]),
  st (.store 4 (.t 2) (.t 48))])
 .ret)
 (.seq (.reg [] [fi 50 (.mv (.t 4)),
  fi 51 (.bin .neq (.t 50) (.c (.str (mkS [])))),
  fi 52 (.mv (.t 51)),
  .run ⟨(some 53), (some (52, true)), .f (.mv (.t 4))⟩,
  .run ⟨(some 54), (some (52, true)), .f (.indexS (.t 53) (.c (.int .i64 0)))⟩,
  .run ⟨(some 55), (some (52, true)), .f (.bin .eql (.t 54) (.c (.int .u8 62)))⟩,
  .run ⟨(some 56), (some (52, true)), .f (.mv (.t 55))⟩,
  .run ⟨(some 57), (some (56, false)), .f (.mv (.t 4))⟩,
  .run ⟨(some 58), (some (56, false)), .f (.indexS (.t 57) (.c (.int .i64 0)))⟩,
  .run ⟨(some 59), (some (56, false)), .f (.bin .eql (.t 58) (.c (.int .u8 60)))⟩,
  .run ⟨(some 60), (some (52, true)), .f (.pick (.t 56) (.c (.bool true)) (.t 59))⟩,
  fi 61 (.pick (.t 52) (.t 60) (.c (.bool false))),
  fi 49 (.mv (.t 61))])
 (.ite (.t 49)
 (.seq (.reg [] [fi 63 (.mv (.t 4)),
  fi 64 (.sliceS (.t 63) (some (.c (.int .i64 1))) none),
  ei 65 (.call 283 [(.t 64), (.c (.int .i64 10)), (.c (.int .i64 64))]),
  fi 62 (.mv (.t 65)),
  fi 66 (.extract (.t 62) 0),
  fi 67 (.extract (.t 62) 1),
  fi 5 (.mv (.t 66)),
  fi 6 (.mv (.t 67))])
 (.seq (.reg [0, 1, 2, 3, 5, 6, 4, 7, 8] [fi 68 (.mv (.t 6)),
  fi 69 (.eq false .iface (.t 68) (.c .nilIface)),
  fi 70 (.mv (.t 69)),
  .run ⟨(some 71), (some (70, true)), .f (.mv (.t 5))⟩,
  .run ⟨(some 73), (some (70, true)), .f (.mv (.t 4))⟩,
  .run ⟨(some 74), (some (70, true)), .f (.sliceS (.t 73) (some (.c (.int .i64 1))) none)⟩,
  .run ⟨(some 72), (some (70, true)), .e (.call 284 [(.t 71), (.c (.int .i64 10))])⟩,
  .run ⟨(some 75), (some (70, true)), .f (.bin .eql (.t 72) (.t 74))⟩,
  fi 76 (.pick (.t 70) (.t 75) (.c (.bool false)))])
 (.ite (.t 76)
 (.seq (.seq (.reg [] [fi 77 (.mv (.t 4)),
  fi 78 (.indexS (.t 77) (.c (.int .i64 0))),
  fi 79 (.bin .eql (.t 78) (.c (.int .u8 62)))])
 (.ite (.t 79)
 (.seq (.reg [] [fi 80 (.mv (.t 5)),
  fi 81 (.build [(.int .u8 0), (.str (mkS [])), (.int .i64 0), (.sl [] 0 4 .nil)] [(0, 1, (.c (.int .u8 6))), (2, 1, (.t 80))]),
  st (.store 4 (.t 2) (.t 81))])
 .ret)
 .skip))
 (.seq (.reg [] [fi 82 (.mv (.t 5)),
  fi 83 (.build [(.int .u8 0), (.str (mkS [])), (.int .i64 0), (.sl [] 0 4 .nil)] [(0, 1, (.c (.int .u8 7))), (2, 1, (.t 82))]),
  st (.store 4 (.t 2) (.t 83))])
 .ret))
 .skip)))
 .skip))))
def s_query_reader_word_0 : Cd := (.seq (.reg [0, 1, 2, 3, 4, 5, 6, 7, 8, 9, 10] [fi 25 (.mv (.t 0)),
  fi 26 (.nilCheck (.t 25)),
  fi 27 (.fieldAddr 0 (.t 26)),
  fi 28 (.load false 1 (.t 27)),
  fi 29 (.mv (.t 3)),
  fi 30 (.mv (.t 0)),
  fi 31 (.nilCheck (.t 30)),
  fi 32 (.fieldAddr 1 (.t 31)),
  fi 33 (.load false 1 (.t 32)),
  fi 34 (.sliceS (.t 28) (some (.t 29)) (some (.t 33))),
  fi 4 (.mv (.t 34))])
 (.seq (.blk 2 (.seq (.reg [] [fi 36 (.mv (.t 4)),
  fi 37 (.bin .eql (.t 36) (.c (.str (mkS [42])))),
  fi 35 (.mv (.t 37))])
 (.ite (.t 35)
 (.seq (.reg [] [fi 38 (.build [(.int .u8 0), (.str (mkS [])), (.int .i64 0), (.sl [] 0 4 .nil)] [(0, 1, (.c (.int .u8 0)))]),
  st (.store 4 (.t 2) (.t 38))])
 .ret)
 (.seq (.reg [] [fi 40 (.mv (.t 4)),
  ei 41 (.call 281 [(.t 40)]),
  fi 39 (.mv (.t 41))])
 (.ite (.t 39)
 (.seq (.reg [] [fi 42 (.mv (.t 4)),
  fi 43 (.build [(.int .u8 0), (.str (mkS [])), (.int .i64 0), (.sl [] 0 4 .nil)] [(0, 1, (.c (.int .u8 1))), (1, 1, (.t 42))]),
  st (.store 4 (.t 2) (.t 43))])
 .ret)
 i_query_reader_word_0)))))
 (.seq (.reg [] [fi 84 (.mv (.t 3)),
  ei 85 (.call 71 [(.t 84), (.c (.int .i64 4))])])
 (.seq (.reg [] [fi 86 (.build [(.int .u8 0), (.str (mkS [])), (.int .i64 0), (.sl [] 0 4 .nil)] []),
  st (.store 4 (.t 2) (.t 86))])
 .ret))))
def b_query_reader_word : Cd := (.seq (.reg [] [ei 2 (.alloc [(.int .u8 0), (.str (mkS [])), (.int .i64 0), (.sl [] 0 4 .nil)])])
 (.seq (.reg [] [fi 7 (.mv (.t 0)),
  fi 8 (.nilCheck (.t 7)),
  fi 9 (.fieldAddr 1 (.t 8)),
  fi 10 (.load false 1 (.t 9)),
  fi 3 (.mv (.t 10))])
 (.seq (.blk 0 (.loop l_query_reader_word_0))
 s_query_reader_word_0)))
theorem k_query_reader_word : chkFn Tryz.prog n_query_reader_word ⟨b_query_reader_word, [.cell 2 true 4], 87⟩ = true := by kernel_rfl
abbrev n_ring_Hash : Nat := 64
def l_ring_Hash_0 : Cd := (.seq (.reg [] [fi 8 (.bin .lss (.t 7) (.t 6))])
 (.seq (.ite (.t 8)
 .skip
 (.exit 0))
 (.seq (.blk 1 (.seq (.reg [] [fi 9 (.mv (.t 7)),
  fi 4 (.mv (.t 9))])
 (.seq (.reg [] [fi 10 (.mv (.t 3)),
  fi 11 (.mv (.t 0)),
  fi 12 (.mv (.t 4)),
  fi 13 (.indexS (.t 11) (.t 12)),
  fi 14 (.conv (.int .u64) (.t 13)),
  fi 15 (.bin .xor (.t 10) (.t 14)),
  fi 3 (.mv (.t 15))])
 (.reg [] [fi 16 (.mv (.t 3)),
  fi 17 (.bin .mul (.t 16) (.c (.int .u64 1099511628211))),
  fi 3 (.mv (.t 17))]))))
 (.reg [] [fi 18 (.bin .add (.t 7) (.c (.int .i64 1))),
  fi 7 (.mv (.t 18))]))))
def s_ring_Hash_0 : Cd := (.seq (.reg [] [fi 19 (.mv (.t 3)),
  fi 20 (.mv (.t 3)),
  fi 21 (.bin .shr (.t 20) (.c (.int .u64 32))),
  fi 22 (.bin .xor (.t 19) (.t 21)),
  fi 3 (.mv (.t 22))])
 (.seq (.reg [] [fi 23 (.mv (.t 3)),
  fi 24 (.bin .mul (.t 23) (.c (.int .u64 11400714819323198485))),
  fi 3 (.mv (.t 24))])
 (.seq (.reg [] [fi 25 (.mv (.t 3)),
  fi 26 (.mv (.t 3)),
  fi 27 (.bin .shr (.t 26) (.c (.int .u64 29))),
  fi 28 (.bin .xor (.t 25) (.t 27)),
  fi 2 (.mv (.t 28))])
 .ret)))
def b_ring_Hash : Cd := (.seq (.reg [] [fi 2 (.mv (.c (.int .u64 0)))])
 (.seq (.reg [] [fi 3 (.mv (.c (.int .u64 14695981039346656037)))])
 (.seq (.seq (.reg [] [fi 5 (.mv (.t 0)),
  fi 6 (.len .str (.t 5)),
  fi 7 (.mv (.c (.int .i64 0)))])
 (.blk 0 (.loop l_ring_Hash_0)))
 s_ring_Hash_0)))
theorem k_ring_Hash : chkFn Tryz.prog n_ring_Hash ⟨b_ring_Hash, [.tmp 2], 29⟩ = true := by kernel_rfl
abbrev n_ring_Shard : Nat := 35
def r_ring_Shard_0 : Cd := (.seq (.blk 3 (.seq (.reg [] [fi 24 (.mv (.t 22)),
  fi 8 (.mv (.t 24))])
 (.reg [] [fi 25 (.mv (.t 6)),
  fi 26 (.mv (.t 7)),
  ei 27 (.call 49 [(.t 26)]),
  fi 28 (.bin .add (.c (.str (mkS [115, 104, 97, 114, 100, 45]))) (.t 27)),
  fi 29 (.bin .add (.t 28) (.c (.str (mkS [45])))),
  fi 30 (.mv (.t 8)),
  ei 31 (.call 49 [(.t 30)]),
  fi 32 (.bin .add (.t 29) (.t 31)),
  ei 33 (.call 64 [(.t 32)]),
  fi 34 (.mv (.t 7)),
  fi 35 (.build [(.int .u64 0), (.int .i64 0)] [(0, 1, (.t 33)), (1, 1, (.t 34))]),
  ei 36 (.buildSlice 1 2 0 [(.int .u64 0), (.int .i64 0)] [(0, 2, (.t 35))]),
  ei 37 (.append 2 16 true (.t 25) (.t 36)),
  fi 6 (.mv (.t 37))])))
 (.reg [] [fi 38 (.bin .add (.t 22) (.c (.int .i64 1))),
  fi 22 (.mv (.t 38))]))
def l_ring_Shard_0 : Cd := (.seq (.reg [] [fi 23 (.bin .lss (.t 22) (.c (.int .i64 16)))])
 (.seq (.ite (.t 23)
 .skip
 (.exit 2))
 r_ring_Shard_0))
def l_ring_Shard_1 : Cd := (.seq (.reg [] [fi 20 (.bin .lss (.t 19) (.t 18))])
 (.seq (.ite (.t 20)
 .skip
 (.exit 0))
 (.seq (.blk 1 (.seq (.reg [] [fi 21 (.mv (.t 19)),
  fi 7 (.mv (.t 21))])
 (.seq (.reg [] [fi 22 (.mv (.c (.int .i64 0)))])
 (.blk 2 (.loop l_ring_Shard_0)))))
 (.reg [] [fi 39 (.bin .add (.t 19) (.c (.int .i64 1))),
  fi 19 (.mv (.t 39))]))))
def r_ring_Shard_1 : Cd := (.seq (.blk 5 (.seq (.reg [] [fi 48 (.indexAddr 2 (.t 44) (.t 46)),
  fi 49 (.load true 2 (.t 48)),
  ei 11 (.alloc [(.int .u64 0), (.int .i64 0)]),
  st (.store 2 (.t 11) (.t 49))])
 (.seq (.reg [] [fi 50 (.fieldAddr 0 (.t 11)),
  fi 51 (.load false 1 (.t 50)),
  fi 52 (.mv (.t 9)),
  fi 53 (.bin .geq (.t 51) (.t 52))])
 (.ite (.t 53)
 (.seq (.reg [] [fi 54 (.fieldAddr 1 (.t 11)),
  fi 55 (.load false 1 (.t 54)),
  fi 4 (.mv (.t 55)),
  fi 5 (.mv (.c (.int .i64 0)))])
 .ret)
 .skip))))
 (.reg [] [fi 56 (.bin .add (.t 46) (.c (.int .i64 1))),
  fi 46 (.mv (.t 56))]))
def l_ring_Shard_2 : Cd := (.seq (.reg [] [fi 47 (.bin .lss (.t 46) (.t 45))])
 (.seq (.ite (.t 47)
 .skip
 (.exit 4))
 r_ring_Shard_1))
def s_ring_Shard_0 : Cd := (.seq (.reg [] [fi 40 (.mv (.t 6)),
  ei 41 (.call 65 [(.t 40), (.c (.func 66 [] []))])])
 (.seq (.reg [] [fi 42 (.mv (.t 0)),
  ei 43 (.call 64 [(.t 42)]),
  fi 9 (.mv (.t 43))])
 (.seq (.seq (.reg [] [fi 44 (.mv (.t 6)),
  fi 45 (.len .sl (.t 44)),
  fi 46 (.mv (.c (.int .i64 0)))])
 (.blk 4 (.loop l_ring_Shard_2)))
 (.seq (.reg [] [fi 57 (.mv (.t 6)),
  fi 58 (.indexAddr 2 (.t 57) (.c (.int .i64 0))),
  fi 59 (.fieldAddr 1 (.t 58)),
  fi 60 (.load false 1 (.t 59)),
  fi 4 (.mv (.t 60)),
  fi 5 (.mv (.c (.int .i64 0)))])
 .ret))))
def b_ring_Shard : Cd := (.seq (.reg [] [fi 4 (.mv (.c (.int .i64 0))),
  fi 5 (.mv (.c (.int .i64 0)))])
 (.seq (.seq (.reg [] [fi 12 (.mv (.t 1)),
  fi 13 (.bin .lss (.t 12) (.c (.int .i64 1))),
  fi 14 (.mv (.t 13)),
  .run ⟨(some 15), (some (14, false)), .f (.mv (.t 1))⟩,
  .run ⟨(some 16), (some (14, false)), .f (.bin .gtr (.t 15) (.c (.int .i64 8)))⟩,
  fi 17 (.pick (.t 14) (.c (.bool true)) (.t 16))])
 (.ite (.t 17)
 (.seq (.reg [] [fi 4 (.mv (.c (.int .i64 0))),
  fi 5 (.mv (.c (.int .i64 1)))])
 .ret)
 .skip))
 (.seq (.reg [] [fi 6 (.mv (.c (.sl [] 0 2 .nil)))])
 (.seq (.seq (.reg [] [fi 18 (.mv (.t 1)),
  fi 19 (.mv (.c (.int .i64 0)))])
 (.blk 0 (.loop l_ring_Shard_1)))
 s_ring_Shard_0))))
theorem k_ring_Shard : chkFn Tryz.prog n_ring_Shard ⟨b_ring_Shard, [.tmp 4, .tmp 5], 61⟩ = true := by kernel_rfl
abbrev n_ring_Shard_1 : Nat := 66
def b_ring_Shard_1 : Cd := (.seq (.reg [] [ei 2 (.box (.t 0)),
  ei 3 (.box (.t 1)),
  fi 4 (.mv (.c (.int .i64 0)))])
 (.seq (.blk 0 (.seq (.reg [] [fi 6 (.fieldAddr 0 (.t 2)),
  fi 7 (.load false 1 (.t 6)),
  fi 8 (.fieldAddr 0 (.t 3)),
  fi 9 (.load false 1 (.t 8)),
  fi 10 (.bin .lss (.t 7) (.t 9)),
  fi 5 (.mv (.t 10))])
 (.ite (.t 5)
 (.seq (.reg [] [fi 4 (.mv (.c (.int .i64 (-1))))])
 .ret)
 (.seq (.reg [] [fi 12 (.fieldAddr 0 (.t 2)),
  fi 13 (.load false 1 (.t 12)),
  fi 14 (.fieldAddr 0 (.t 3)),
  fi 15 (.load false 1 (.t 14)),
  fi 16 (.bin .gtr (.t 13) (.t 15)),
  fi 11 (.mv (.t 16))])
 (.ite (.t 11)
 (.seq (.reg [] [fi 4 (.mv (.c (.int .i64 1)))])
 .ret)
 .skip)))))
 (.seq (.reg [] [fi 17 (.fieldAddr 1 (.t 2)),
  fi 18 (.load false 1 (.t 17)),
  fi 19 (.fieldAddr 1 (.t 3)),
  fi 20 (.load false 1 (.t 19)),
  fi 21 (.bin .sub (.t 18) (.t 20)),
  fi 4 (.mv (.t 21))])
 .ret)))
theorem k_ring_Shard_1 : chkFn Tryz.prog n_ring_Shard_1 ⟨b_ring_Shard_1, [.tmp 4], 22⟩ = true := by kernel_rfl
abbrev n_seg_Build : Nat := 166
def l_seg_Build_0 : Cd := (.seq (.reg [] [fi 21 (.bin .lss (.t 20) (.t 19))])
 (.seq (.ite (.t 21)
 .skip
 (.exit 0))
 (.seq (.blk 1 (.seq (.reg [] [fi 22 (.indexAddr 3 (.t 18) (.t 20)),
  fi 23 (.load true 3 (.t 22)),
  ei 5 (.alloc [(.str (mkS [])), (.int .i64 0), (.str (mkS []))]),
  st (.store 3 (.t 5) (.t 23))])
 (.seq (.reg [] [fi 24 (.load true 3 (.t 5)),
  ei 25 (.call 34 [(.t 24)]),
  fi 26 (.un .not (.t 25))])
 (.ite (.t 26)
 (.seq (.reg [] [fi 2 (.mv (.c (.sl [] 0 1 .nil))),
  fi 3 (.mv (.c (.int .i64 3)))])
 .ret)
 .skip))))
 (.reg [] [fi 27 (.bin .add (.t 20) (.c (.int .i64 1))),
  fi 20 (.mv (.t 27))]))))
def l_seg_Build_1 : Cd := (.seq (.reg [] [fi 38 (.bin .lss (.t 37) (.t 36))])
 (.seq (.ite (.t 38)
 .skip
 (.exit 2))
 (.seq (.blk 3 (.seq (.reg [] [fi 39 (.indexAddr 3 (.t 35) (.t 37)),
  fi 40 (.load true 3 (.t 39)),
  ei 8 (.alloc [(.str (mkS [])), (.int .i64 0), (.str (mkS []))]),
  st (.store 3 (.t 8) (.t 40))])
 (.reg [] [fi 41 (.mv (.t 6)),
  fi 42 (.load true 3 (.t 8)),
  ei 43 (.call 232 [(.t 42)]),
  ei 44 (.append 1 1 false (.t 41) (.t 43)),
  fi 6 (.mv (.t 44))])))
 (.reg [] [fi 45 (.bin .add (.t 37) (.c (.int .i64 1))),
  fi 37 (.mv (.t 45))]))))
def l_seg_Build_2 : Cd := (.seq (.reg [] [fi 60 (.bin .lss (.t 59) (.t 58))])
 (.seq (.ite (.t 60)
 .skip
 (.exit 4))
 (.seq (.blk 5 (.seq (.reg [] [fi 61 (.mv (.t 59)),
  fi 62 (.indexAddr 1 (.t 57) (.t 59)),
  fi 63 (.load false 1 (.t 62)),
  fi 11 (.mv (.t 61)),
  fi 12 (.mv (.t 63))])
 (.seq (.reg [] [fi 64 (.mv (.t 6)),
  fi 65 (.mv (.t 12)),
  ei 66 (.call 197 [(.t 65)]),
  ei 67 (.append 1 1 false (.t 64) (.t 66)),
  fi 6 (.mv (.t 67))])
 (.seq (.reg [] [fi 69 (.mv (.t 10)),
  fi 70 (.mv (.t 11)),
  fi 71 (.indexAddr 1 (.t 69) (.t 70)),
  fi 72 (.load false 1 (.t 71)),
  ei 73 (.call 234 [(.t 72)]),
  fi 68 (.mv (.t 73)),
  fi 74 (.extract (.t 68) 0),
  fi 75 (.extract (.t 68) 1),
  fi 13 (.mv (.t 74)),
  fi 14 (.mv (.t 75))])
 (.reg [] [fi 76 (.mv (.t 6)),
  fi 77 (.mv (.t 13)),
  ei 78 (.append 1 1 false (.t 76) (.t 77)),
  fi 6 (.mv (.t 78))])))))
 (.reg [] [fi 79 (.bin .add (.t 59) (.c (.int .i64 1))),
  fi 59 (.mv (.t 79))]))))
def s_seg_Build_0 : Cd := (.seq (.reg [] [fi 47 (.mv (.t 0)),
  ei 48 (.call 233 [(.t 47)]),
  fi 46 (.mv (.t 48)),
  fi 49 (.extract (.t 46) 0),
  fi 50 (.extract (.t 46) 1),
  fi 9 (.mv (.t 49)),
  fi 10 (.mv (.t 50))])
 (.seq (.reg [] [fi 51 (.mv (.t 6)),
  fi 52 (.mv (.t 9)),
  fi 53 (.len .sl (.t 52)),
  fi 54 (.conv (.int .u64) (.t 53)),
  ei 55 (.call 125 [(.t 54)]),
  ei 56 (.append 1 1 false (.t 51) (.t 55)),
  fi 6 (.mv (.t 56))])
 (.seq (.seq (.reg [] [fi 57 (.mv (.t 9)),
  fi 58 (.len .sl (.t 57)),
  fi 59 (.mv (.c (.int .i64 0)))])
 (.blk 4 (.loop l_seg_Build_2)))
 (.seq (.reg [] [fi 80 (.mv (.t 6)),
  fi 81 (.mv (.t 6)),
  ei 82 (.call 218 [(.t 81)]),
  ei 83 (.call 235 [(.t 82)]),
  ei 84 (.append 1 1 false (.t 80) (.t 83)),
  fi 2 (.mv (.t 84)),
  fi 3 (.mv (.c (.int .i64 0)))])
 .ret))))
def s_seg_Build_1 : Cd := (.seq (.reg [] [ei 28 (.buildSlice 4 1 2 [(.int .u8 0), (.int .u8 0), (.int .u8 0), (.int .u8 0)] [(0, 1, (.c (.int .u8 83))), (1, 1, (.c (.int .u8 69))), (2, 1, (.c (.int .u8 71))), (3, 1, (.c (.int .u8 49)))]),
  ei 29 (.bytesSame (.t 28)),
  fi 30 (.mv (.t 0)),
  fi 31 (.len .sl (.t 30)),
  fi 32 (.conv (.int .u64) (.t 31)),
  ei 33 (.call 125 [(.t 32)]),
  ei 34 (.append 1 1 false (.t 29) (.t 33)),
  fi 6 (.mv (.t 34))])
 (.seq (.seq (.reg [] [fi 35 (.mv (.t 0)),
  fi 36 (.len .sl (.t 35)),
  fi 37 (.mv (.c (.int .i64 0)))])
 (.blk 2 (.loop l_seg_Build_1)))
 s_seg_Build_0))
def b_seg_Build : Cd := (.seq (.reg [] [fi 2 (.mv (.c (.sl [] 0 1 .nil))),
  fi 3 (.mv (.c (.int .i64 0)))])
 (.seq (.seq (.reg [] [fi 15 (.mv (.t 0)),
  fi 16 (.len .sl (.t 15)),
  fi 17 (.bin .gtr (.t 16) (.c (.int .i64 4096)))])
 (.ite (.t 17)
 (.seq (.reg [] [fi 2 (.mv (.c (.sl [] 0 1 .nil))),
  fi 3 (.mv (.c (.int .i64 2)))])
 .ret)
 .skip))
 (.seq (.seq (.reg [] [fi 18 (.mv (.t 0)),
  fi 19 (.len .sl (.t 18)),
  fi 20 (.mv (.c (.int .i64 0)))])
 (.blk 0 (.loop l_seg_Build_0)))
 s_seg_Build_1)))
theorem k_seg_Build : chkFn Tryz.prog n_seg_Build ⟨b_seg_Build, [.tmp 2, .tmp 3], 85⟩ = true := by kernel_rfl
abbrev n_seg_Open : Nat := 167
def k_seg_Open_0 : Cd := (.seq (.reg [] [fi 54 (.mv (.t 5)),
  ei 55 (.call 237 [(.t 54), (.c (.int .i64 32))]),
  fi 56 (.build [(.str (mkS [])), (.int .i64 0), (.str (mkS []))] [(0, 1, (.t 55))]),
  ei 8 (.alloc [(.str (mkS [])), (.int .i64 0), (.str (mkS []))]),
  st (.store 3 (.t 8) (.t 56))])
 (.seq (.reg [] [fi 57 (.mv (.t 5)),
  ei 58 (.call 236 [(.t 57), (.c (.int .u64 18446744073709551615))]),
  ei 59 (.call 165 [(.t 58)]),
  fi 60 (.fieldAddr 1 (.t 8)),
  st (.store 1 (.t 60) (.t 59))])
 (.seq (.reg [] [fi 61 (.mv (.t 5)),
  ei 62 (.call 237 [(.t 61), (.c (.int .i64 512))]),
  fi 63 (.fieldAddr 2 (.t 8)),
  st (.store 1 (.t 63) (.t 62))])
 (.seq (.seq (.reg [] [fi 64 (.mv (.t 5)),
  fi 65 (.nilCheck (.t 64)),
  fi 66 (.fieldAddr 2 (.t 65)),
  fi 67 (.load false 1 (.t 66)),
  fi 68 (.bin .eql (.t 67) (.c (.int .i64 0))),
  fi 69 (.mv (.t 68)),
  .run ⟨(some 70), (some (69, true)), .f (.load true 3 (.t 8))⟩,
  .run ⟨(some 71), (some (69, true)), .e (.call 34 [(.t 70)])⟩,
  .run ⟨(some 72), (some (69, true)), .f (.un .not (.t 71))⟩,
  fi 73 (.pick (.t 69) (.t 72) (.c (.bool false)))])
 (.ite (.t 73)
 (.seq (.reg [] [fi 2 (.mv (.c (.ptr none))),
  fi 3 (.mv (.c (.int .i64 3)))])
 .ret)
 .skip))
 (.reg [0, 1, 2, 3, 4, 5, 6, 4, 7, 8, 9, 10] [fi 74 (.mv (.t 6)),
  fi 75 (.mv (.t 6)),
  fi 76 (.nilCheck (.t 75)),
  fi 77 (.fieldAddr 0 (.t 76)),
  fi 78 (.load false 1 (.t 77)),
  fi 79 (.load true 3 (.t 8)),
  ei 80 (.buildSlice 1 3 0 [(.str (mkS [])), (.int .i64 0), (.str (mkS []))] [(0, 3, (.t 79))]),
  .chk 78 none (.load false 1 (.t 77)),
  ei 81 (.append 3 40 false (.t 78) (.t 80)),
  fi 82 (.nilCheck (.t 74)),
  fi 83 (.fieldAddr 0 (.t 82)),
  st (.store 1 (.t 83) (.t 81))])))))
def l_seg_Open_0 : Cd := (.seq (.seq (.reg [] [fi 43 (.mv (.t 7)),
  fi 44 (.bin .gtr (.t 43) (.c (.int .u64 0))),
  fi 45 (.mv (.t 44)),
  .run ⟨(some 46), (some (45, true)), .f (.mv (.t 5))⟩,
  .run ⟨(some 47), (some (45, true)), .f (.nilCheck (.t 46))⟩,
  .run ⟨(some 48), (some (45, true)), .f (.fieldAddr 2 (.t 47))⟩,
  .run ⟨(some 49), (some (45, true)), .f (.load false 1 (.t 48))⟩,
  .run ⟨(some 50), (some (45, true)), .f (.bin .eql (.t 49) (.c (.int .i64 0)))⟩,
  fi 51 (.pick (.t 45) (.t 50) (.c (.bool false)))])
 (.ite (.t 51)
 .skip
 (.exit 0)))
 (.seq (.blk 1 k_seg_Open_0)
 (.reg [] [fi 52 (.mv (.t 7)),
  fi 53 (.bin .sub (.t 52) (.c (.int .u64 1))),
  fi 7 (.mv (.t 53))])))
def s_seg_Open_0 : Cd := (.seq (.reg [] [fi 85 (.mv (.t 6)),
  fi 86 (.mv (.t 6)),
  fi 87 (.mv (.t 6)),
  fi 88 (.nilCheck (.t 87)),
  fi 89 (.fieldAddr 0 (.t 88)),
  fi 90 (.load false 1 (.t 89)),
  ei 91 (.call 233 [(.t 90)]),
  fi 84 (.mv (.t 91)),
  fi 92 (.extract (.t 84) 0),
  fi 93 (.extract (.t 84) 1),
  fi 94 (.nilCheck (.t 85)),
  fi 95 (.fieldAddr 1 (.t 94)),
  st (.store 1 (.t 95) (.t 92)),
  fi 96 (.nilCheck (.t 86)),
  fi 97 (.fieldAddr 2 (.t 96)),
  st (.store 1 (.t 97) (.t 93))])
 (.seq (.seq (.reg [] [fi 98 (.mv (.t 5)),
  fi 99 (.nilCheck (.t 98)),
  fi 100 (.fieldAddr 2 (.t 99)),
  fi 101 (.load false 1 (.t 100)),
  fi 102 (.bin .neq (.t 101) (.c (.int .i64 0)))])
 (.ite (.t 102)
 (.seq (.reg [] [fi 2 (.mv (.c (.ptr none))),
  fi 3 (.mv (.c (.int .i64 3)))])
 .ret)
 .skip))
 (.seq (.reg [] [fi 104 (.mv (.t 6)),
  fi 105 (.nilCheck (.t 104)),
  fi 106 (.fieldAddr 0 (.t 105)),
  fi 107 (.load false 1 (.t 106)),
  ei 108 (.call 166 [(.t 107)]),
  fi 103 (.mv (.t 108)),
  fi 109 (.extract (.t 103) 0),
  fi 110 (.extract (.t 103) 1),
  fi 9 (.mv (.t 109)),
  fi 10 (.mv (.t 110))])
 (.seq (.seq (.reg [] [fi 111 (.mv (.t 10)),
  fi 112 (.bin .neq (.t 111) (.c (.int .i64 0))),
  fi 113 (.mv (.t 112)),
  .run ⟨(some 114), (some (113, false)), .f (.mv (.t 9))⟩,
  .run ⟨(some 115), (some (113, false)), .f (.conv .bytesStr (.t 114))⟩,
  .run ⟨(some 116), (some (113, false)), .f (.mv (.t 0))⟩,
  .run ⟨(some 117), (some (113, false)), .f (.conv .bytesStr (.t 116))⟩,
  .run ⟨(some 118), (some (113, false)), .f (.bin .neq (.t 115) (.t 117))⟩,
  fi 119 (.pick (.t 113) (.c (.bool true)) (.t 118))])
 (.ite (.t 119)
 (.seq (.reg [] [fi 2 (.mv (.c (.ptr none))),
  fi 3 (.mv (.c (.int .i64 3)))])
 .ret)
 .skip))
 (.seq (.reg [] [fi 120 (.mv (.t 6)),
  fi 2 (.mv (.t 120)),
  fi 3 (.mv (.c (.int .i64 0)))])
 .ret)))))
def b_seg_Open : Cd := (.seq (.reg [] [fi 2 (.mv (.c (.ptr none))),
  fi 3 (.mv (.c (.int .i64 0)))])
 (.seq (.seq (.reg [] [fi 11 (.mv (.t 0)),
  fi 12 (.len .sl (.t 11)),
  fi 13 (.bin .lss (.t 12) (.c (.int .i64 8))),
  fi 14 (.mv (.t 13)),
  .run ⟨(some 15), (some (14, false)), .f (.mv (.t 0))⟩,
  .run ⟨(some 16), (some (14, false)), .f (.slice 1 (.t 15) none (some (.c (.int .i64 4))) none)⟩,
  .run ⟨(some 17), (some (14, false)), .f (.conv .bytesStr (.t 16))⟩,
  .run ⟨(some 18), (some (14, false)), .f (.bin .neq (.t 17) (.c (.str (mkS [83, 69, 71, 49]))))⟩,
  fi 19 (.pick (.t 14) (.c (.bool true)) (.t 18))])
 (.ite (.t 19)
 (.seq (.reg [] [fi 2 (.mv (.c (.ptr none))),
  fi 3 (.mv (.c (.int .i64 3)))])
 .ret)
 .skip))
 (.seq (.reg [] [fi 20 (.mv (.t 0)),
  fi 21 (.len .sl (.t 20)),
  fi 22 (.bin .sub (.t 21) (.c (.int .i64 4))),
  fi 4 (.mv (.t 22))])
 (.seq (.seq (.reg [0, 1, 2, 3, 4, 5, 6, 7, 3, 8, 3, 9, 10] [fi 23 (.mv (.t 0)),
  fi 24 (.mv (.t 4)),
  fi 25 (.slice 1 (.t 23) (some (.t 24)) none none),
  fi 26 (.conv .bytesStr (.t 25)),
  fi 27 (.mv (.t 0)),
  fi 28 (.mv (.t 4)),
  fi 29 (.slice 1 (.t 27) none (some (.t 28)) none),
  ei 30 (.call 218 [(.t 29)]),
  .chk 26 none (.conv .bytesStr (.t 25)),
  ei 31 (.call 235 [(.t 30)]),
  .chk 26 none (.conv .bytesStr (.t 25)),
  fi 32 (.conv .bytesStr (.t 31)),
  fi 33 (.bin .neq (.t 26) (.t 32))])
 (.ite (.t 33)
 (.seq (.reg [] [fi 2 (.mv (.c (.ptr none))),
  fi 3 (.mv (.c (.int .i64 5)))])
 .ret)
 .skip))
 (.seq (.reg [] [fi 34 (.mv (.t 0)),
  fi 35 (.mv (.t 4)),
  fi 36 (.slice 1 (.t 34) none (some (.t 35)) none),
  fi 37 (.build [(.sl [] 0 1 .nil), (.int .i64 0), (.int .i64 0)] [(0, 1, (.t 36)), (1, 1, (.c (.int .i64 4)))]),
  ei 38 (.box (.t 37)),
  fi 5 (.mv (.t 38))])
 (.seq (.reg [] [fi 39 (.build [(.sl [] 0 3 .nil), (.sl [] 0 1 .nil), (.sl [] 0 1 .nil)] []),
  ei 40 (.box (.t 39)),
  fi 6 (.mv (.t 40))])
 (.seq (.seq (.reg [] [fi 41 (.mv (.t 5)),
  ei 42 (.call 236 [(.t 41), (.c (.int .u64 4096))]),
  fi 7 (.mv (.t 42))])
 (.blk 0 (.loop l_seg_Open_0)))
 s_seg_Open_0)))))))
theorem k_seg_Open : chkFn Tryz.prog n_seg_Open ⟨b_seg_Open, [.tmp 2, .tmp 3], 121⟩ = true := by kernel_rfl
abbrev n_seg_entry : Nat := 232
def b_seg_entry : Cd := (.seq (.reg [] [ei 1 (.box (.t 0)),
  fi 2 (.mv (.c (.sl [] 0 1 .nil)))])
 (.seq (.reg [0, 1, 3, 4, 2, 4, 5, 6, 7, 8] [fi 4 (.fieldAddr 0 (.t 1)),
  fi 5 (.load false 1 (.t 4)),
  fi 7 (.fieldAddr 1 (.t 1)),
  fi 8 (.load false 1 (.t 7)),
  ei 6 (.call 197 [(.t 5)]),
  .chk 8 none (.load false 1 (.t 7)),
  ei 9 (.call 196 [(.t 8)]),
  ei 10 (.call 125 [(.t 9)]),
  ei 11 (.append 1 1 false (.t 6) (.t 10)),
  fi 3 (.mv (.t 11))])
 (.seq (.reg [] [fi 12 (.mv (.t 3)),
  fi 13 (.fieldAddr 2 (.t 1)),
  fi 14 (.load false 1 (.t 13)),
  ei 15 (.call 197 [(.t 14)]),
  ei 16 (.append 1 1 false (.t 12) (.t 15)),
  fi 2 (.mv (.t 16))])
 .ret)))
theorem k_seg_entry : chkFn Tryz.prog n_seg_entry ⟨b_seg_entry, [.tmp 2], 17⟩ = true := by kernel_rfl
abbrev n_seg_four : Nat := 235
def b_seg_four : Cd := (.seq (.reg [] [fi 2 (.mv (.c (.sl [] 0 1 .nil)))])
 (.seq (.reg [] [fi 3 (.mv (.t 0)),
  fi 4 (.bin .shr (.t 3) (.c (.int .u64 24))),
  fi 5 (.conv (.int .u8) (.t 4)),
  fi 6 (.mv (.t 0)),
  fi 7 (.bin .shr (.t 6) (.c (.int .u64 16))),
  fi 8 (.conv (.int .u8) (.t 7)),
  fi 9 (.mv (.t 0)),
  fi 10 (.bin .shr (.t 9) (.c (.int .u64 8))),
  fi 11 (.conv (.int .u8) (.t 10)),
  fi 12 (.mv (.t 0)),
  fi 13 (.conv (.int .u8) (.t 12)),
  ei 14 (.buildSlice 4 1 0 [(.int .u8 0), (.int .u8 0), (.int .u8 0), (.int .u8 0)] [(0, 1, (.t 5)), (1, 1, (.t 8)), (2, 1, (.t 11)), (3, 1, (.t 13))]),
  fi 2 (.mv (.t 14))])
 .ret))
theorem k_seg_four : chkFn Tryz.prog n_seg_four ⟨b_seg_four, [.tmp 2], 15⟩ = true := by kernel_rfl
abbrev n_seg_gather : Nat := 233
def l_seg_gather_0 : Cd := (.seq (.reg [] [fi 26 (.bin .lss (.t 25) (.t 24))])
 (.seq (.ite (.t 26)
 .skip
 (.exit 2))
 (.seq (.blk 3 (.seq (.reg [] [fi 27 (.indexAddr 1 (.t 23) (.t 25)),
  fi 28 (.load false 1 (.t 27)),
  fi 8 (.mv (.t 28))])
 (.reg [] [fi 29 (.mv (.t 4)),
  fi 30 (.mv (.t 8)),
  fi 31 (.mv (.t 4)),
  fi 32 (.mv (.t 8)),
  fi 33 (.lookup .str false (.sl [] 0 1 .nil) (.t 31) (.t 32)),
  fi 34 (.mv (.t 5)),
  ei 35 (.buildSlice 1 1 0 [(.int .i64 0)] [(0, 1, (.t 34))]),
  ei 36 (.append 1 8 false (.t 33) (.t 35)),
  st (.mapSet .str (.t 29) (.t 30) (.t 36))])))
 (.reg [] [fi 37 (.bin .add (.t 25) (.c (.int .i64 1))),
  fi 25 (.mv (.t 37))]))))
def l_seg_gather_1 : Cd := (.seq (.reg [] [fi 17 (.bin .lss (.t 16) (.t 15))])
 (.seq (.ite (.t 17)
 .skip
 (.exit 0))
 (.seq (.blk 1 (.seq (.reg [] [fi 18 (.mv (.t 16)),
  fi 19 (.indexAddr 3 (.t 14) (.t 16)),
  fi 20 (.load true 3 (.t 19)),
  ei 6 (.alloc [(.str (mkS [])), (.int .i64 0), (.str (mkS []))]),
  fi 5 (.mv (.t 18)),
  st (.store 3 (.t 6) (.t 20))])
 (.seq (.reg [] [fi 21 (.fieldAddr 2 (.t 6)),
  fi 22 (.load false 1 (.t 21)),
  ei 23 (.call 266 [(.t 22)]),
  fi 24 (.len .sl (.t 23)),
  fi 25 (.mv (.c (.int .i64 0)))])
 (.blk 2 (.loop l_seg_gather_0)))))
 (.reg [] [fi 38 (.bin .add (.t 16) (.c (.int .i64 1))),
  fi 16 (.mv (.t 38))]))))
def l_seg_gather_2 : Cd := (.seq (.reg [] [fi 44 (.bin .lss (.t 43) (.t 42))])
 (.seq (.ite (.t 44)
 .skip
 (.exit 4))
 (.seq (.blk 5 (.seq (.reg [] [fi 45 (.indexAddr 1 (.t 41) (.t 43)),
  fi 46 (.load false 1 (.t 45)),
  fi 12 (.mv (.t 46))])
 (.reg [] [fi 47 (.mv (.t 10)),
  fi 48 (.mv (.t 4)),
  fi 49 (.mv (.t 12)),
  fi 50 (.lookup .str false (.sl [] 0 1 .nil) (.t 48) (.t 49)),
  ei 51 (.buildSlice 1 1 0 [(.sl [] 0 1 .nil)] [(0, 1, (.t 50))]),
  ei 52 (.append 1 24 false (.t 47) (.t 51)),
  fi 10 (.mv (.t 52))])))
 (.reg [] [fi 53 (.bin .add (.t 43) (.c (.int .i64 1))),
  fi 43 (.mv (.t 53))]))))
def s_seg_gather_0 : Cd := (.seq (.reg [] [fi 39 (.mv (.t 4)),
  ei 40 (.call 267 [(.t 39)]),
  fi 9 (.mv (.t 40))])
 (.seq (.reg [] [fi 10 (.mv (.c (.sl [] 0 1 .nil)))])
 (.seq (.seq (.reg [] [fi 41 (.mv (.t 9)),
  fi 42 (.len .sl (.t 41)),
  fi 43 (.mv (.c (.int .i64 0)))])
 (.blk 4 (.loop l_seg_gather_2)))
 (.seq (.reg [] [fi 54 (.mv (.t 9)),
  fi 55 (.mv (.t 10)),
  fi 2 (.mv (.t 54)),
  fi 3 (.mv (.t 55))])
 .ret))))
def b_seg_gather : Cd := (.seq (.reg [] [fi 2 (.mv (.c (.sl [] 0 1 .nil))),
  fi 3 (.mv (.c (.sl [] 0 1 .nil)))])
 (.seq (.reg [] [ei 13 (.makeMap),
  fi 4 (.mv (.t 13))])
 (.seq (.seq (.reg [] [fi 14 (.mv (.t 0)),
  fi 15 (.len .sl (.t 14)),
  fi 16 (.mv (.c (.int .i64 0)))])
 (.blk 0 (.loop l_seg_gather_1)))
 s_seg_gather_0)))
theorem k_seg_gather : chkFn Tryz.prog n_seg_gather ⟨b_seg_gather, [.tmp 2, .tmp 3], 56⟩ = true := by kernel_rfl
abbrev n_seg_keys_string_int : Nat := 267
def b_seg_keys_string_int : Cd := (.seq (.reg [] [fi 2 (.mv (.c (.sl [] 0 1 .nil)))])
 (.seq (.reg [] [fi 3 (.mv (.t 0)),
  ei 4 (.call 296 [(.t 3)]),
  ei 5 (.call 295 [(.t 4)]),
  fi 2 (.mv (.t 5))])
 .ret))
theorem k_seg_keys_string_int : chkFn Tryz.prog n_seg_keys_string_int ⟨b_seg_keys_string_int, [.tmp 2], 6⟩ = true := by kernel_rfl
abbrev n_seg_reader_number : Nat := 236
def b_seg_reader_number : Cd := (.seq (.reg [] [fi 4 (.mv (.c (.int .u64 0)))])
 (.seq (.seq (.reg [] [fi 8 (.mv (.t 0)),
  fi 9 (.nilCheck (.t 8)),
  fi 10 (.fieldAddr 2 (.t 9)),
  fi 11 (.load false 1 (.t 10)),
  fi 12 (.bin .neq (.t 11) (.c (.int .i64 0)))])
 (.ite (.t 12)
 (.seq (.reg [] [fi 4 (.mv (.c (.int .u64 0)))])
 .ret)
 .skip))
 (.seq (.reg [0, 1, 2, 3, 4, 5, 6, 7, 8, 9, 10, 11, 12, 13, 14, 15] [fi 14 (.mv (.t 0)),
  fi 15 (.nilCheck (.t 14)),
  fi 16 (.fieldAddr 0 (.t 15)),
  fi 17 (.load false 1 (.t 16)),
  fi 18 (.mv (.t 0)),
  fi 19 (.nilCheck (.t 18)),
  fi 20 (.fieldAddr 1 (.t 19)),
  fi 21 (.load false 1 (.t 20)),
  ei 22 (.call 94 [(.t 17), (.t 21)]),
  fi 13 (.mv (.t 22)),
  fi 23 (.extract (.t 13) 0),
  fi 24 (.extract (.t 13) 1),
  fi 25 (.extract (.t 13) 2),
  fi 5 (.mv (.t 23)),
  fi 6 (.mv (.t 24)),
  fi 7 (.mv (.t 25))])
 (.seq (.seq (.reg [] [fi 26 (.mv (.t 7)),
  fi 27 (.bin .eql (.t 26) (.c (.int .i64 0))),
  fi 28 (.mv (.t 27)),
  .run ⟨(some 29), (some (28, true)), .f (.mv (.t 5))⟩,
  .run ⟨(some 30), (some (28, true)), .f (.mv (.t 1))⟩,
  .run ⟨(some 31), (some (28, true)), .f (.bin .gtr (.t 29) (.t 30))⟩,
  fi 32 (.pick (.t 28) (.t 31) (.c (.bool false)))])
 (.ite (.t 32)
 (.reg [] [fi 7 (.mv (.c (.int .i64 3)))])
 .skip))
 (.seq (.reg [] [fi 33 (.mv (.t 0)),
  fi 34 (.mv (.t 0)),
  fi 35 (.mv (.t 6)),
  fi 36 (.mv (.t 7)),
  fi 37 (.nilCheck (.t 33)),
  fi 38 (.fieldAddr 1 (.t 37)),
  st (.store 1 (.t 38) (.t 35)),
  fi 39 (.nilCheck (.t 34)),
  fi 40 (.fieldAddr 2 (.t 39)),
  st (.store 1 (.t 40) (.t 36))])
 (.seq (.reg [] [fi 41 (.mv (.t 5)),
  fi 4 (.mv (.t 41))])
 .ret))))))
theorem k_seg_reader_number : chkFn Tryz.prog n_seg_reader_number ⟨b_seg_reader_number, [.tmp 4], 42⟩ = true := by kernel_rfl
abbrev n_seg_reader_text : Nat := 237
def b_seg_reader_text : Cd := (.seq (.reg [] [fi 4 (.mv (.c (.str (mkS []))))])
 (.seq (.seq (.reg [] [fi 8 (.mv (.t 0)),
  fi 9 (.nilCheck (.t 8)),
  fi 10 (.fieldAddr 2 (.t 9)),
  fi 11 (.load false 1 (.t 10)),
  fi 12 (.bin .neq (.t 11) (.c (.int .i64 0)))])
 (.ite (.t 12)
 (.seq (.reg [] [fi 4 (.mv (.c (.str (mkS []))))])
 .ret)
 .skip))
 (.seq (.reg [0, 1, 2, 3, 4, 5, 6, 7, 8, 9, 10, 11, 12, 13, 14, 15, 16] [fi 14 (.mv (.t 0)),
  fi 15 (.nilCheck (.t 14)),
  fi 16 (.fieldAddr 0 (.t 15)),
  fi 17 (.load false 1 (.t 16)),
  fi 18 (.mv (.t 0)),
  fi 19 (.nilCheck (.t 18)),
  fi 20 (.fieldAddr 1 (.t 19)),
  fi 21 (.load false 1 (.t 20)),
  fi 22 (.mv (.t 1)),
  ei 23 (.call 164 [(.t 17), (.t 21), (.t 22)]),
  fi 13 (.mv (.t 23)),
  fi 24 (.extract (.t 13) 0),
  fi 25 (.extract (.t 13) 1),
  fi 26 (.extract (.t 13) 2),
  fi 5 (.mv (.t 24)),
  fi 6 (.mv (.t 25)),
  fi 7 (.mv (.t 26))])
 (.seq (.reg [] [fi 27 (.mv (.t 0)),
  fi 28 (.mv (.t 0)),
  fi 29 (.mv (.t 6)),
  fi 30 (.mv (.t 7)),
  fi 31 (.nilCheck (.t 27)),
  fi 32 (.fieldAddr 1 (.t 31)),
  st (.store 1 (.t 32) (.t 29)),
  fi 33 (.nilCheck (.t 28)),
  fi 34 (.fieldAddr 2 (.t 33)),
  st (.store 1 (.t 34) (.t 30))])
 (.seq (.reg [] [fi 35 (.mv (.t 5)),
  fi 4 (.mv (.t 35))])
 .ret)))))
theorem k_seg_reader_text : chkFn Tryz.prog n_seg_reader_text ⟨b_seg_reader_text, [.tmp 4], 36⟩ = true := by kernel_rfl
abbrev n_words_Terms : Nat := 266
def k_words_Terms_0 : Cd := (.seq (.reg [] [fi 13 (.mv (.t 11)),
  fi 14 (.indexAddr 3 (.t 9) (.t 11)),
  fi 15 (.load true 3 (.t 14)),
  ei 6 (.alloc [(.str (mkS [])), (.int .i64 0), (.int .i64 0)]),
  fi 5 (.mv (.t 13)),
  st (.store 3 (.t 6) (.t 15))])
 (.seq (.reg [] [fi 16 (.mv (.t 3)),
  fi 17 (.fieldAddr 0 (.t 6)),
  fi 18 (.load false 1 (.t 17)),
  ei 19 (.buildSlice 1 1 0 [(.str (mkS []))] [(0, 1, (.t 18))]),
  ei 20 (.append 1 16 false (.t 16) (.t 19)),
  fi 3 (.mv (.t 20))])
 (.seq (.reg [0, 1, 2, 3, 4, 5, 6, 7, 8, 9, 10, 11, 12, 13, 14, 15, 16, 17, 18, 19, 20, 21] [fi 21 (.mv (.t 5)),
  fi 22 (.bin .gtr (.t 21) (.c (.int .i64 0))),
  fi 23 (.mv (.t 22)),
  .run ⟨(some 24), (some (23, true)), .f (.mv (.t 4))⟩,
  .run ⟨(some 25), (some (23, true)), .f (.mv (.t 5))⟩,
  .run ⟨(some 26), (some (23, true)), .f (.bin .sub (.t 25) (.c (.int .i64 1)))⟩,
  .run ⟨(some 27), (some (23, true)), .f (.indexAddr 3 (.t 24) (.t 26))⟩,
  .run ⟨(some 28), (some (23, true)), .f (.fieldAddr 2 (.t 27))⟩,
  .run ⟨(some 29), (some (23, true)), .f (.load false 1 (.t 28))⟩,
  .run ⟨(some 30), (some (23, true)), .f (.bin .add (.t 29) (.c (.int .i64 1)))⟩,
  .run ⟨(some 31), (some (23, true)), .f (.fieldAddr 1 (.t 6))⟩,
  .run ⟨(some 32), (some (23, true)), .f (.load false 1 (.t 31))⟩,
  .run ⟨(some 33), (some (23, true)), .f (.bin .eql (.t 30) (.t 32))⟩,
  fi 34 (.pick (.t 23) (.t 33) (.c (.bool false))),
  fi 35 (.mv (.t 34)),
  .run ⟨(some 36), (some (35, true)), .f (.mv (.t 0))⟩,
  .run ⟨(some 37), (some (35, true)), .f (.fieldAddr 1 (.t 6))⟩,
  .run ⟨(some 38), (some (35, true)), .f (.load false 1 (.t 37))⟩,
  .run ⟨(some 39), (some (35, true)), .f (.bin .sub (.t 38) (.c (.int .i64 1)))⟩,
  .run ⟨(some 40), (some (35, true)), .f (.indexS (.t 36) (.t 39))⟩,
  .run ⟨(some 41), (some (35, true)), .f (.bin .eql (.t 40) (.c (.int .u8 61)))⟩,
  fi 42 (.pick (.t 35) (.t 41) (.c (.bool false)))])
 (.ite (.t 42)
 (.reg [0, 1, 2, 3, 4, 5, 6, 7, 8, 9, 10, 11, 12, 13] [fi 43 (.mv (.t 3)),
  fi 44 (.mv (.t 4)),
  fi 45 (.mv (.t 5)),
  fi 46 (.bin .sub (.t 45) (.c (.int .i64 1))),
  fi 47 (.indexAddr 3 (.t 44) (.t 46)),
  fi 48 (.fieldAddr 0 (.t 47)),
  fi 49 (.load false 1 (.t 48)),
  fi 50 (.bin .add (.t 49) (.c (.str (mkS [61])))),
  fi 51 (.fieldAddr 0 (.t 6)),
  fi 52 (.load false 1 (.t 51)),
  fi 53 (.bin .add (.t 50) (.t 52)),
  ei 54 (.buildSlice 1 1 0 [(.str (mkS []))] [(0, 1, (.t 53))]),
  ei 55 (.append 1 16 false (.t 43) (.t 54)),
  fi 3 (.mv (.t 55))])
 .skip))))
def l_words_Terms_0 : Cd := (.seq (.reg [] [fi 12 (.bin .lss (.t 11) (.t 10))])
 (.seq (.ite (.t 12)
 .skip
 (.exit 0))
 (.seq (.blk 1 k_words_Terms_0)
 (.reg [] [fi 56 (.bin .add (.t 11) (.c (.int .i64 1))),
  fi 11 (.mv (.t 56))]))))
def b_words_Terms : Cd := (.seq (.reg [] [fi 2 (.mv (.c (.sl [] 0 1 .nil)))])
 (.seq (.reg [] [fi 3 (.mv (.c (.sl [] 0 1 .nil)))])
 (.seq (.reg [] [fi 7 (.mv (.t 0)),
  ei 8 (.call 292 [(.t 7)]),
  fi 4 (.mv (.t 8))])
 (.seq (.seq (.reg [] [fi 9 (.mv (.t 4)),
  fi 10 (.len .sl (.t 9)),
  fi 11 (.mv (.c (.int .i64 0)))])
 (.blk 0 (.loop l_words_Terms_0)))
 (.seq (.reg [] [fi 57 (.mv (.t 3)),
  ei 58 (.call 293 [(.t 57)])])
 (.seq (.reg [] [fi 59 (.mv (.t 3)),
  ei 60 (.call 294 [(.t 59)]),
  fi 2 (.mv (.t 60))])
 .ret))))))
theorem k_words_Terms : chkFn Tryz.prog n_words_Terms ⟨b_words_Terms, [.tmp 2], 61⟩ = true := by kernel_rfl
abbrev n_words_Words : Nat := 292
def k_words_Words_0 : Cd := (.seq (.reg [] [fi 16 (.mv (.t 0)),
  fi 17 (.mv (.t 5)),
  fi 18 (.sliceS (.t 16) (some (.t 17)) none),
  ei 19 (.call 307 [(.t 18)]),
  fi 15 (.mv (.t 19)),
  fi 20 (.extract (.t 15) 0),
  fi 21 (.extract (.t 15) 1),
  fi 6 (.mv (.t 20)),
  fi 7 (.mv (.t 21))])
 (.seq (.reg [] [fi 23 (.mv (.t 6)),
  fi 24 (.mv (.t 7)),
  ei 25 (.call 308 [(.t 23), (.t 24)]),
  fi 22 (.mv (.t 25)),
  fi 26 (.extract (.t 22) 0),
  fi 27 (.extract (.t 22) 1),
  fi 8 (.mv (.t 26)),
  fi 9 (.mv (.t 27))])
 (.seq (.seq (.reg [] [fi 28 (.mv (.t 9))])
 (.ite (.t 28)
 (.seq (.seq (.reg [] [fi 29 (.mv (.t 4)),
  fi 30 (.un .not (.t 29)),
  fi 31 (.mv (.t 30)),
  .run ⟨(some 32), (some (31, false)), .f (.mv (.t 3))⟩,
  .run ⟨(some 33), (some (31, false)), .f (.mv (.t 3))⟩,
  .run ⟨(some 34), (some (31, false)), .f (.len .sl (.t 33))⟩,
  .run ⟨(some 35), (some (31, false)), .f (.bin .sub (.t 34) (.c (.int .i64 1)))⟩,
  .run ⟨(some 36), (some (31, false)), .f (.indexAddr 3 (.t 32) (.t 35))⟩,
  .run ⟨(some 37), (some (31, false)), .f (.fieldAddr 0 (.t 36))⟩,
  .run ⟨(some 38), (some (31, false)), .f (.load false 1 (.t 37))⟩,
  .run ⟨(some 39), (some (31, false)), .f (.len .str (.t 38))⟩,
  .run ⟨(some 40), (some (31, false)), .f (.mv (.t 7))⟩,
  .run ⟨(some 41), (some (31, false)), .f (.bin .add (.t 39) (.t 40))⟩,
  .run ⟨(some 42), (some (31, false)), .f (.bin .gtr (.t 41) (.c (.int .i64 32)))⟩,
  fi 43 (.pick (.t 31) (.c (.bool true)) (.t 42))])
 (.ite (.t 43)
 (.reg [] [fi 44 (.mv (.t 3)),
  fi 45 (.mv (.t 5)),
  fi 46 (.build [(.str (mkS [])), (.int .i64 0), (.int .i64 0)] [(1, 1, (.t 45))]),
  ei 47 (.buildSlice 1 3 0 [(.str (mkS [])), (.int .i64 0), (.int .i64 0)] [(0, 3, (.t 46))]),
  ei 48 (.append 3 32 false (.t 44) (.t 47)),
  fi 3 (.mv (.t 48))])
 .skip))
 (.seq (.reg [] [fi 49 (.mv (.t 3)),
  fi 50 (.mv (.t 3)),
  fi 51 (.len .sl (.t 50)),
  fi 52 (.bin .sub (.t 51) (.c (.int .i64 1))),
  fi 53 (.indexAddr 3 (.t 49) (.t 52)),
  fi 10 (.mv (.t 53))])
 (.seq (.reg [] [fi 54 (.mv (.t 10)),
  fi 55 (.nilCheck (.t 54)),
  fi 56 (.fieldAddr 0 (.t 55)),
  fi 57 (.load false 1 (.t 56)),
  fi 58 (.mv (.t 8)),
  fi 59 (.conv .intStr (.t 58)),
  fi 60 (.bin .add (.t 57) (.t 59)),
  fi 61 (.nilCheck (.t 54)),
  fi 62 (.fieldAddr 0 (.t 61)),
  st (.store 1 (.t 62) (.t 60))])
 (.reg [] [fi 63 (.mv (.t 10)),
  fi 64 (.mv (.t 5)),
  fi 65 (.mv (.t 7)),
  fi 66 (.bin .add (.t 64) (.t 65)),
  fi 67 (.nilCheck (.t 63)),
  fi 68 (.fieldAddr 2 (.t 67)),
  st (.store 1 (.t 68) (.t 66))]))))
 .skip))
 (.seq (.reg [] [fi 69 (.mv (.t 9)),
  fi 4 (.mv (.t 69))])
 (.reg [] [fi 70 (.mv (.t 5)),
  fi 71 (.mv (.t 7)),
  fi 72 (.bin .add (.t 70) (.t 71)),
  fi 5 (.mv (.t 72))])))))
def l_words_Words_0 : Cd := (.seq (.seq (.reg [] [fi 11 (.mv (.t 5)),
  fi 12 (.mv (.t 0)),
  fi 13 (.len .str (.t 12)),
  fi 14 (.bin .lss (.t 11) (.t 13))])
 (.ite (.t 14)
 .skip
 (.exit 0)))
 (.blk 1 k_words_Words_0))
def b_words_Words : Cd := (.seq (.reg [] [fi 2 (.mv (.c (.sl [] 0 3 .nil)))])
 (.seq (.reg [] [fi 3 (.mv (.c (.sl [] 0 3 .nil)))])
 (.seq (.reg [] [fi 4 (.mv (.c (.bool false)))])
 (.seq (.seq (.reg [] [fi 5 (.mv (.c (.int .i64 0)))])
 (.blk 0 (.loop l_words_Words_0)))
 (.seq (.reg [] [fi 73 (.mv (.t 3)),
  fi 2 (.mv (.t 73))])
 .ret)))))
theorem k_words_Words : chkFn Tryz.prog n_words_Words ⟨b_words_Words, [.tmp 2], 74⟩ = true := by kernel_rfl
end Go.VM
