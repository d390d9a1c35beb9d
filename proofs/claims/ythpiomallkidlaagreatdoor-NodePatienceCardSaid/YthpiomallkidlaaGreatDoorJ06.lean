/-
  The codes of functions, as the value machine has them, and that they stand for the model's (printed by a program, wip/gen).
-/
import Derived.Test.YthpiomallkidlaaGreatDoorJ03
import Derived.Test.YthpiomallkidlaaGreatDoorJ04
import Derived.Test.YthpiomallkidlaaGreatDoorProg
import Derived.KernelRfl
set_option linter.unusedVariables false
set_option maxRecDepth 100000
namespace Go.VM
open Go Go.Proofs
theorem mixed : Tryz.prog.follows .mixedOrders = true := by kernel_rfl
abbrev n_node_Node_Done : Nat := 19
def b_node_Node_Done : Cd := (.seq (.reg [] [fi 2 (.mv (.c (.sl [] 0 5 .nil)))])
 (.seq (.seq (.reg [] [fi 4 (.mv (.t 0)),
  fi 5 (.eq false .ptr (.t 4) (.c (.ptr none)))])
 (.ite (.t 5)
 (.seq (.reg [] [fi 2 (.mv (.c (.sl [] 0 5 .nil)))])
 .ret)
 .skip))
 (.seq (.reg [] [fi 6 (.mv (.t 0)),
  fi 7 (.nilCheck (.t 6)),
  fi 8 (.fieldAddr 17 (.t 7)),
  fi 9 (.load false 1 (.t 8)),
  fi 3 (.mv (.t 9))])
 (.seq (.reg [] [fi 10 (.mv (.t 0)),
  fi 11 (.nilCheck (.t 10)),
  fi 12 (.fieldAddr 17 (.t 11)),
  st (.store 1 (.t 12) (.c (.sl [] 0 5 .nil)))])
 (.seq (.reg [] [fi 13 (.mv (.t 3)),
  fi 2 (.mv (.t 13))])
 .ret)))))
theorem k_node_Node_Done : chkFn Tryz.prog n_node_Node_Done ⟨b_node_Node_Done, [.tmp 2], 14⟩ = true := by kernel_rfl
abbrev n_node_Node_Holds : Nat := 13
def b_node_Node_Holds : Cd := (.seq (.reg [] [fi 4 (.mv (.c (.sl [] 0 4 .nil)))])
 (.seq (.seq (.reg [] [fi 5 (.mv (.t 0)),
  fi 6 (.eq false .ptr (.t 5) (.c (.ptr none))),
  fi 7 (.mv (.t 6)),
  .run ⟨(some 8), (some (7, false)), .f (.mv (.t 1))⟩,
  .run ⟨(some 9), (some (7, false)), .f (.bin .lss (.t 8) (.c (.int .i64 0)))⟩,
  fi 10 (.pick (.t 7) (.c (.bool true)) (.t 9)),
  fi 11 (.mv (.t 10)),
  .run ⟨(some 12), (some (11, false)), .f (.mv (.t 1))⟩,
  .run ⟨(some 13), (some (11, false)), .f (.mv (.t 0))⟩,
  .run ⟨(some 14), (some (11, false)), .f (.nilCheck (.t 13))⟩,
  .run ⟨(some 15), (some (11, false)), .f (.fieldAddr 12 (.t 14))⟩,
  .run ⟨(some 16), (some (11, false)), .f (.load false 1 (.t 15))⟩,
  .run ⟨(some 17), (some (11, false)), .f (.len .sl (.t 16))⟩,
  .run ⟨(some 18), (some (11, false)), .f (.bin .geq (.t 12) (.t 17))⟩,
  fi 19 (.pick (.t 11) (.c (.bool true)) (.t 18))])
 (.ite (.t 19)
 (.seq (.reg [] [fi 4 (.mv (.c (.sl [] 0 4 .nil)))])
 .ret)
 .skip))
 (.seq (.reg [] [fi 20 (.mv (.t 0)),
  fi 21 (.nilCheck (.t 20)),
  fi 22 (.fieldAddr 12 (.t 21)),
  fi 23 (.load false 1 (.t 22)),
  fi 24 (.mv (.t 1)),
  fi 25 (.indexAddr 1 (.t 23) (.t 24)),
  fi 26 (.load false 1 (.t 25)),
  fi 27 (.nilCheck (.t 26)),
  fi 28 (.fieldAddr 0 (.t 27)),
  fi 29 (.load false 1 (.t 28)),
  ei 30 (.call 32 [(.t 29)]),
  fi 4 (.mv (.t 30))])
 .ret)))
theorem k_node_Node_Holds : chkFn Tryz.prog n_node_Node_Holds ⟨b_node_Node_Holds, [.tmp 4], 31⟩ = true := by kernel_rfl
abbrev n_node_Node_Out : Nat := 18
def b_node_Node_Out : Cd := (.seq (.reg [] [fi 2 (.mv (.c (.sl [] 0 3 .nil)))])
 (.seq (.seq (.reg [] [fi 4 (.mv (.t 0)),
  fi 5 (.eq false .ptr (.t 4) (.c (.ptr none)))])
 (.ite (.t 5)
 (.seq (.reg [] [fi 2 (.mv (.c (.sl [] 0 3 .nil)))])
 .ret)
 .skip))
 (.seq (.reg [] [fi 6 (.mv (.t 0)),
  fi 7 (.nilCheck (.t 6)),
  fi 8 (.fieldAddr 15 (.t 7)),
  fi 9 (.load false 1 (.t 8)),
  fi 3 (.mv (.t 9))])
 (.seq (.reg [] [fi 10 (.mv (.t 0)),
  fi 11 (.nilCheck (.t 10)),
  fi 12 (.fieldAddr 15 (.t 11)),
  st (.store 1 (.t 12) (.c (.sl [] 0 3 .nil)))])
 (.seq (.reg [] [fi 13 (.mv (.t 3)),
  fi 2 (.mv (.t 13))])
 .ret)))))
theorem k_node_Node_Out : chkFn Tryz.prog n_node_Node_Out ⟨b_node_Node_Out, [.tmp 2], 14⟩ = true := by kernel_rfl
abbrev n_node_Node_Search : Nat := 16
def b_node_Node_Search : Cd := (.seq (.reg [] [fi 8 (.mv (.c (.int .i64 0)))])
 (.seq (.seq (.reg [] [fi 12 (.mv (.t 0)),
  fi 13 (.eq false .ptr (.t 12) (.c (.ptr none)))])
 (.ite (.t 13)
 (.seq (.reg [] [fi 8 (.mv (.c (.int .i64 8)))])
 .ret)
 .skip))
 (.seq (.seq (.reg [] [fi 14 (.mv (.t 3)),
  fi 15 (.bin .lss (.t 14) (.c (.int .i64 1))),
  fi 16 (.mv (.t 15)),
  .run ⟨(some 17), (some (16, false)), .f (.mv (.t 3))⟩,
  .run ⟨(some 18), (some (16, false)), .f (.bin .gtr (.t 17) (.c (.int .i64 20)))⟩,
  fi 19 (.pick (.t 16) (.c (.bool true)) (.t 18))])
 (.ite (.t 19)
 (.seq (.reg [] [fi 8 (.mv (.c (.int .i64 1)))])
 .ret)
 .skip))
 (.seq (.seq (.reg [] [fi 21 (.mv (.t 2)),
  ei 22 (.call 37 [(.t 21)]),
  fi 20 (.mv (.t 22)),
  fi 23 (.extract (.t 20) 0),
  fi 24 (.extract (.t 20) 1),
  fi 25 (.extract (.t 20) 2),
  ei 9 (.alloc [(.int .u8 0), (.str (mkS [])), (.int .i64 0), (.sl [] 0 4 .nil)]),
  st (.store 4 (.t 9) (.t 23)),
  fi 10 (.mv (.t 24)),
  fi 11 (.mv (.t 25))])
 (.seq (.reg [] [fi 26 (.mv (.t 11)),
  fi 27 (.bin .neq (.t 26) (.c (.int .i64 0)))])
 (.ite (.t 27)
 (.seq (.reg [] [fi 28 (.mv (.t 11)),
  fi 8 (.mv (.t 28))])
 .ret)
 .skip)))
 (.seq (.reg [] [fi 29 (.mv (.t 0)),
  fi 30 (.mv (.t 1)),
  fi 31 (.mv (.t 2)),
  fi 32 (.mv (.t 3)),
  fi 33 (.build [(.str (mkS [])), (.int .i64 0), (.sl [] 0 2 .nil), (.bool false), (.int .i64 0), (.str (mkS []))] [(0, 1, (.t 31)), (1, 1, (.t 32)), (3, 1, (.c (.bool true)))]),
  ei 34 (.call 38 [(.t 29), (.t 30), (.t 33)]),
  fi 8 (.mv (.t 34))])
 .ret)))))
theorem k_node_Node_Search : chkFn Tryz.prog n_node_Node_Search ⟨b_node_Node_Search, [.tmp 8], 35⟩ = true := by kernel_rfl
abbrev n_node_Node_Serves : Nat := 14
def b_node_Node_Serves : Cd := (.seq (.reg [] [fi 4 (.mv (.c (.int .u64 0)))])
 (.seq (.seq (.reg [] [fi 5 (.mv (.t 0)),
  fi 6 (.eq false .ptr (.t 5) (.c (.ptr none))),
  fi 7 (.mv (.t 6)),
  .run ⟨(some 8), (some (7, false)), .f (.mv (.t 0))⟩,
  .run ⟨(some 9), (some (7, false)), .f (.nilCheck (.t 8))⟩,
  .run ⟨(some 10), (some (7, false)), .f (.fieldAddr 19 (.t 9))⟩,
  .run ⟨(some 11), (some (7, false)), .f (.load false 1 (.t 10))⟩,
  .run ⟨(some 12), (some (7, false)), .f (.bin .neq (.t 11) (.c (.int .i64 0)))⟩,
  fi 13 (.pick (.t 7) (.c (.bool true)) (.t 12)),
  fi 14 (.mv (.t 13)),
  .run ⟨(some 15), (some (14, false)), .f (.mv (.t 1))⟩,
  .run ⟨(some 16), (some (14, false)), .f (.bin .lss (.t 15) (.c (.int .i64 0)))⟩,
  fi 17 (.pick (.t 14) (.c (.bool true)) (.t 16)),
  fi 18 (.mv (.t 17)),
  .run ⟨(some 19), (some (18, false)), .f (.mv (.t 1))⟩,
  .run ⟨(some 20), (some (18, false)), .f (.mv (.t 0))⟩,
  .run ⟨(some 21), (some (18, false)), .f (.nilCheck (.t 20))⟩,
  .run ⟨(some 22), (some (18, false)), .f (.fieldAddr 12 (.t 21))⟩,
  .run ⟨(some 23), (some (18, false)), .f (.load false 1 (.t 22))⟩,
  .run ⟨(some 24), (some (18, false)), .f (.len .sl (.t 23))⟩,
  .run ⟨(some 25), (some (18, false)), .f (.bin .geq (.t 19) (.t 24))⟩,
  fi 26 (.pick (.t 18) (.c (.bool true)) (.t 25)),
  fi 27 (.mv (.t 26)),
  .run ⟨(some 28), (some (27, false)), .f (.mv (.t 0))⟩,
  .run ⟨(some 29), (some (27, false)), .f (.nilCheck (.t 28))⟩,
  .run ⟨(some 30), (some (27, false)), .f (.fieldAddr 12 (.t 29))⟩,
  .run ⟨(some 31), (some (27, false)), .f (.load false 1 (.t 30))⟩,
  .run ⟨(some 32), (some (27, false)), .f (.mv (.t 1))⟩,
  .run ⟨(some 33), (some (27, false)), .f (.indexAddr 1 (.t 31) (.t 32))⟩,
  .run ⟨(some 34), (some (27, false)), .f (.load false 1 (.t 33))⟩,
  .run ⟨(some 35), (some (27, false)), .f (.nilCheck (.t 34))⟩,
  .run ⟨(some 36), (some (27, false)), .f (.fieldAddr 2 (.t 35))⟩,
  .run ⟨(some 37), (some (27, false)), .f (.load false 1 (.t 36))⟩,
  .run ⟨(some 38), (some (27, false)), .f (.eq false .ptr (.t 37) (.c (.ptr none)))⟩,
  fi 39 (.pick (.t 27) (.c (.bool true)) (.t 38))])
 (.ite (.t 39)
 (.seq (.reg [] [fi 4 (.mv (.c (.int .u64 0)))])
 .ret)
 .skip))
 (.seq (.reg [] [fi 40 (.mv (.t 0)),
  fi 41 (.nilCheck (.t 40)),
  fi 42 (.fieldAddr 12 (.t 41)),
  fi 43 (.load false 1 (.t 42)),
  fi 44 (.mv (.t 1)),
  fi 45 (.indexAddr 1 (.t 43) (.t 44)),
  fi 46 (.load false 1 (.t 45)),
  fi 47 (.nilCheck (.t 46)),
  fi 48 (.fieldAddr 2 (.t 47)),
  fi 49 (.load false 1 (.t 48)),
  ei 50 (.call 33 [(.t 49)]),
  fi 4 (.mv (.t 50))])
 .ret)))
theorem k_node_Node_Serves : chkFn Tryz.prog n_node_Node_Serves ⟨b_node_Node_Serves, [.tmp 4], 51⟩ = true := by kernel_rfl
abbrev n_node_Node_Tick : Nat := 17
def l_node_Node_Tick_0 : Cd := (.seq (.reg [] [ei 35 (.next (.t 34)),
  fi 36 (.extract (.t 35) 0)])
 (.seq (.ite (.t 36)
 .skip
 (.exit 0))
 (.blk 1 (.seq (.reg [] [fi 37 (.entry (.t 34)),
  fi 38 (.extract (.t 37) 0),
  ei 5 (.alloc [(.int .u8 0), (.int .i64 0), (.int .i64 0), (.int .u64 0)]),
  st (.store 4 (.t 5) (.t 38))])
 (.seq .stuck
 (.seq .stuck
 (.ite (.t 62)
 .stuck
 .skip)))))))
def l_node_Node_Tick_1 : Cd := (.seq (.reg [] [fi 76 (.bin .lss (.t 75) (.t 74))])
 (.seq (.ite (.t 76)
 .skip
 (.exit 2))
 (.seq (.blk 3 (.seq (.reg [] [fi 77 (.mv (.t 75)),
  fi 6 (.mv (.t 77))])
 (.seq (.reg [] [fi 78 (.mv (.t 0)),
  fi 79 (.nilCheck (.t 78)),
  fi 80 (.fieldAddr 19 (.t 79)),
  fi 81 (.load false 1 (.t 80)),
  fi 82 (.bin .eql (.t 81) (.c (.int .i64 0)))])
 (.ite (.t 82)
 (.reg [] [fi 83 (.mv (.t 0)),
  fi 84 (.mv (.t 6)),
  ei 85 (.call 41 [(.t 83), (.t 84)])])
 .skip))))
 (.reg [] [fi 86 (.bin .add (.t 75) (.c (.int .i64 1))),
  fi 75 (.mv (.t 86))]))))
def l_node_Node_Tick_2 : Cd := (.seq (.reg [] [ei 92 (.next (.t 91)),
  fi 93 (.extract (.t 92) 0)])
 (.seq (.ite (.t 93)
 .skip
 (.exit 4))
 (.blk 5 (.seq (.reg [] [fi 94 (.entry (.t 91)),
  fi 95 (.extract (.t 94) 0),
  fi 8 (.mv (.t 95))])
 (.reg [] [fi 96 (.mv (.t 7)),
  fi 97 (.mv (.t 8)),
  ei 98 (.buildSlice 1 1 0 [(.int .u64 0)] [(0, 1, (.t 97))]),
  ei 99 (.append 1 8 true (.t 96) (.t 98)),
  fi 7 (.mv (.t 99))])))))
def l_node_Node_Tick_3 : Cd := (.seq (.reg [] [fi 105 (.bin .lss (.t 104) (.t 103))])
 (.seq (.ite (.t 105)
 .skip
 (.exit 6))
 (.seq (.blk 7 (.seq (.reg [] [fi 106 (.indexAddr 1 (.t 102) (.t 104)),
  fi 107 (.load false 1 (.t 106)),
  fi 10 (.mv (.t 107))])
 (.reg [] [fi 108 (.mv (.t 0)),
  fi 109 (.mv (.t 10)),
  fi 110 (.mv (.t 0)),
  fi 111 (.nilCheck (.t 110)),
  fi 112 (.fieldAddr 14 (.t 111)),
  fi 113 (.load false 1 (.t 112)),
  fi 114 (.mv (.t 10)),
  fi 115 (.lookup .int false (.ptr none) (.t 113) (.t 114)),
  ei 116 (.call 43 [(.t 108), (.t 109), (.t 115)])])))
 (.reg [] [fi 117 (.bin .add (.t 104) (.c (.int .i64 1))),
  fi 104 (.mv (.t 117))]))))
def s_node_Node_Tick_0 : Cd := (.seq (.reg [] [fi 118 (.mv (.t 0)),
  ei 119 (.call 29 [(.t 118)])])
 (.seq (.reg [] [fi 120 (.mv (.t 0)),
  fi 121 (.nilCheck (.t 120)),
  fi 122 (.fieldAddr 19 (.t 121)),
  fi 123 (.load false 1 (.t 122)),
  fi 4 (.mv (.t 123))])
 .ret))
def s_node_Node_Tick_1 : Cd := (.seq (.reg [] [fi 7 (.mv (.c (.sl [] 0 1 .nil)))])
 (.seq (.seq (.reg [] [fi 87 (.mv (.t 0)),
  fi 88 (.nilCheck (.t 87)),
  fi 89 (.fieldAddr 14 (.t 88)),
  fi 90 (.load false 1 (.t 89)),
  ei 91 (.range (.t 90))])
 (.blk 4 (.loop l_node_Node_Tick_2)))
 (.seq (.reg [] [fi 100 (.mv (.t 7)),
  ei 101 (.call 42 [(.t 100)])])
 (.seq (.seq (.reg [] [fi 102 (.mv (.t 7)),
  fi 103 (.len .sl (.t 102)),
  fi 104 (.mv (.c (.int .i64 0)))])
 (.blk 6 (.loop l_node_Node_Tick_3)))
 s_node_Node_Tick_0))))
def s_node_Node_Tick_2 : Cd := (.seq (.reg [] [fi 68 (.mv (.t 0)),
  ei 69 (.call 29 [(.t 68)])])
 (.seq (.seq (.reg [] [fi 70 (.mv (.t 0)),
  fi 71 (.nilCheck (.t 70)),
  fi 72 (.fieldAddr 12 (.t 71)),
  fi 73 (.load false 1 (.t 72)),
  fi 74 (.len .sl (.t 73)),
  fi 75 (.mv (.c (.int .i64 0)))])
 (.blk 2 (.loop l_node_Node_Tick_1)))
 s_node_Node_Tick_1))
def b_node_Node_Tick : Cd := (.seq (.reg [] [fi 4 (.mv (.c (.int .i64 0)))])
 (.seq (.seq (.reg [] [fi 11 (.mv (.t 0)),
  fi 12 (.eq false .ptr (.t 11) (.c (.ptr none)))])
 (.ite (.t 12)
 (.seq (.reg [] [fi 4 (.mv (.c (.int .i64 8)))])
 .ret)
 .skip))
 (.seq (.seq (.reg [] [fi 13 (.mv (.t 0)),
  fi 14 (.nilCheck (.t 13)),
  fi 15 (.fieldAddr 19 (.t 14)),
  fi 16 (.load false 1 (.t 15)),
  fi 17 (.bin .neq (.t 16) (.c (.int .i64 0)))])
 (.ite (.t 17)
 (.seq (.reg [] [fi 18 (.mv (.t 0)),
  fi 19 (.nilCheck (.t 18)),
  fi 20 (.fieldAddr 19 (.t 19)),
  fi 21 (.load false 1 (.t 20)),
  fi 4 (.mv (.t 21))])
 .ret)
 .skip))
 (.seq (.reg [] [fi 22 (.mv (.t 0)),
  fi 23 (.mv (.t 0)),
  fi 24 (.nilCheck (.t 23)),
  fi 25 (.fieldAddr 8 (.t 24)),
  fi 26 (.load false 1 (.t 25)),
  fi 27 (.mv (.t 1)),
  ei 28 (.call 40 [(.t 26), (.t 27)]),
  ei 29 (.call 39 [(.t 22), (.t 28)])])
 (.seq (.seq (.reg [] [fi 30 (.mv (.t 0)),
  fi 31 (.nilCheck (.t 30)),
  fi 32 (.fieldAddr 18 (.t 31)),
  fi 33 (.load false 1 (.t 32)),
  ei 34 (.range (.t 33))])
 (.blk 0 (.loop l_node_Node_Tick_0)))
 s_node_Node_Tick_2)))))
theorem k_node_Node_Tick : chkFn Tryz.prog n_node_Node_Tick ⟨b_node_Node_Tick, [.tmp 4], 124⟩ = true := by kernel_rfl
abbrev n_node_Node_Waits : Nat := 12
def b_node_Node_Waits : Cd := (.seq (.reg [] [fi 2 (.mv (.c (.int .i64 0)))])
 (.seq (.seq (.reg [] [fi 3 (.mv (.t 0)),
  fi 4 (.eq false .ptr (.t 3) (.c (.ptr none)))])
 (.ite (.t 4)
 (.seq (.reg [] [fi 2 (.mv (.c (.int .i64 0)))])
 .ret)
 .skip))
 (.seq (.reg [] [fi 5 (.mv (.t 0)),
  fi 6 (.nilCheck (.t 5)),
  fi 7 (.fieldAddr 14 (.t 6)),
  fi 8 (.load false 1 (.t 7)),
  fi 9 (.len .map (.t 8)),
  fi 2 (.mv (.t 9))])
 .ret)))
theorem k_node_Node_Waits : chkFn Tryz.prog n_node_Node_Waits ⟨b_node_Node_Waits, [.tmp 2], 10⟩ = true := by kernel_rfl
abbrev n_node_Node_Write : Nat := 15
def b_node_Node_Write : Cd := (.seq (.reg [] [ei 5 (.box (.t 2)),
  fi 6 (.mv (.c (.int .i64 0)))])
 (.seq (.seq (.reg [] [fi 10 (.mv (.t 0)),
  fi 11 (.eq false .ptr (.t 10) (.c (.ptr none)))])
 (.ite (.t 11)
 (.seq (.reg [] [fi 6 (.mv (.c (.int .i64 8)))])
 .ret)
 .skip))
 (.seq (.seq (.reg [] [fi 12 (.load true 3 (.t 5)),
  ei 13 (.call 34 [(.t 12)]),
  fi 14 (.un .not (.t 13))])
 (.ite (.t 14)
 (.seq (.reg [] [fi 6 (.mv (.c (.int .i64 3)))])
 .ret)
 .skip))
 (.seq (.seq (.reg [] [fi 15 (.mv (.t 0)),
  fi 16 (.nilCheck (.t 15)),
  fi 17 (.fieldAddr 19 (.t 16)),
  fi 18 (.load false 1 (.t 17)),
  fi 19 (.bin .neq (.t 18) (.c (.int .i64 0)))])
 (.ite (.t 19)
 (.seq (.reg [] [fi 20 (.mv (.t 0)),
  fi 21 (.nilCheck (.t 20)),
  fi 22 (.fieldAddr 19 (.t 21)),
  fi 23 (.load false 1 (.t 22)),
  fi 6 (.mv (.t 23))])
 .ret)
 .skip))
 (.seq (.reg [0, 1, 2, 3, 4, 5, 6, 7, 8, 9, 10, 11, 12] [fi 25 (.fieldAddr 0 (.t 5)),
  fi 26 (.load false 1 (.t 25)),
  fi 27 (.mv (.t 0)),
  fi 28 (.nilCheck (.t 27)),
  fi 29 (.fieldAddr 2 (.t 28)),
  fi 30 (.fieldAddr 1 (.t 29)),
  fi 31 (.load false 1 (.t 30)),
  ei 32 (.call 35 [(.t 26), (.t 31)]),
  fi 24 (.mv (.t 32)),
  fi 33 (.extract (.t 24) 0),
  fi 34 (.extract (.t 24) 1),
  fi 7 (.mv (.t 33)),
  fi 8 (.mv (.t 34))])
 (.seq (.reg [] [fi 35 (.load true 3 (.t 5)),
  fi 36 (.mv (.t 7)),
  fi 37 (.build [(.int .i64 0), (.bool false), (.str (mkS [])), (.int .i64 0), (.str (mkS [])), (.int .i64 0), (.str (mkS [])), (.int .i64 0), (.sl [] 0 2 .nil), (.bool false), (.int .i64 0), (.str (mkS [])), (.sl [] 0 1 .nil)] [(1, 1, (.c (.bool true))), (2, 3, (.t 35)), (5, 1, (.t 36))]),
  ei 38 (.box (.t 37)),
  fi 9 (.mv (.t 38))])
 (.seq (.reg [] [fi 39 (.mv (.t 0)),
  fi 40 (.nilCheck (.t 39)),
  fi 41 (.fieldAddr 14 (.t 40)),
  fi 42 (.load false 1 (.t 41)),
  fi 43 (.mv (.t 1)),
  fi 44 (.mv (.t 9)),
  st (.mapSet .int (.t 42) (.t 43) (.t 44))])
 (.seq (.reg [] [fi 45 (.mv (.t 0)),
  fi 46 (.mv (.t 1)),
  fi 47 (.mv (.t 9)),
  ei 48 (.call 36 [(.t 45), (.t 46), (.t 47)])])
 (.seq (.reg [] [fi 49 (.mv (.t 0)),
  ei 50 (.call 29 [(.t 49)])])
 (.seq (.reg [] [fi 51 (.mv (.t 0)),
  fi 52 (.nilCheck (.t 51)),
  fi 53 (.fieldAddr 19 (.t 52)),
  fi 54 (.load false 1 (.t 53)),
  fi 6 (.mv (.t 54))])
 .ret))))))))))
theorem k_node_Node_Write : chkFn Tryz.prog n_node_Node_Write ⟨b_node_Node_Write, [.tmp 6], 55⟩ = true := by kernel_rfl
abbrev n_node_Node_apply : Nat := 62
def b_node_Node_apply : Cd := (.seq (.reg [0, 1, 2, 3, 4, 5, 6, 7, 8, 9, 10, 11, 12, 13, 14, 15] [fi 10 (.mv (.t 0)),
  fi 11 (.nilCheck (.t 10)),
  fi 12 (.fieldAddr 8 (.t 11)),
  fi 13 (.load false 1 (.t 12)),
  fi 14 (.mv (.t 0)),
  fi 15 (.nilCheck (.t 14)),
  fi 16 (.fieldAddr 11 (.t 15)),
  fi 17 (.load false 1 (.t 16)),
  ei 18 (.call 108 [(.t 13), (.t 17)]),
  fi 9 (.mv (.t 18)),
  fi 19 (.extract (.t 9) 0),
  fi 20 (.extract (.t 9) 1),
  fi 21 (.extract (.t 9) 2),
  fi 2 (.mv (.t 19)),
  fi 3 (.mv (.t 20)),
  fi 4 (.mv (.t 21))])
 (.seq (.reg [] [fi 23 (.mv (.t 2)),
  ei 24 (.call 109 [(.t 23)]),
  fi 22 (.mv (.t 24)),
  fi 25 (.extract (.t 22) 0),
  fi 26 (.extract (.t 22) 1),
  ei 5 (.alloc [(.int .u8 0), (.int .i64 0), (.int .i64 0), (.int .u64 0)]),
  st (.store 4 (.t 5) (.t 25)),
  fi 6 (.mv (.t 26))])
 (.seq (.seq (.reg [] [fi 27 (.mv (.t 6)),
  fi 28 (.bin .neq (.t 27) (.c (.int .i64 0)))])
 (.ite (.t 28)
 .ret
 .skip))
 (.seq (.alt 5 9
 (.reg [0, 1, 2, 3, 4, 5, 6, 7, 8, 9, 10, 11] [fi 30 (.mv (.t 0)),
  fi 31 (.nilCheck (.t 30)),
  fi 32 (.fieldAddr 9 (.t 31)),
  fi 33 (.load true 2 (.t 32)),
  fi 34 (.load true 4 (.t 5)),
  ei 35 (.call 110 [(.t 33), (.t 34)]),
  fi 29 (.mv (.t 35)),
  fi 36 (.extract (.t 29) 0),
  fi 37 (.extract (.t 29) 1),
  ei 7 (.alloc [(.int .i64 0), (.sl [] 0 4 .nil)]),
  st (.store 2 (.t 7) (.t 36)),
  fi 8 (.mv (.t 37))])
 (.reg [0, 1, 2, 3, 4, 9, 3, 4, 5, 6, 7, 8, 10, 11] [fi 30 (.mv (.t 0)),
  fi 31 (.nilCheck (.t 30)),
  fi 32 (.fieldAddr 9 (.t 31)),
  fi 33 (.load true 2 (.t 32)),
  fi 34 (.load true 4 (.t 5)),
  ei 7 (.alloc [(.int .i64 0), (.sl [] 0 4 .nil)]),
  .chk 33 none (.load true 2 (.t 32)),
  .chk 34 none (.load true 4 (.t 5)),
  ei 35 (.call 110 [(.t 33), (.t 34)]),
  fi 29 (.mv (.t 35)),
  fi 36 (.extract (.t 29) 0),
  fi 37 (.extract (.t 29) 1),
  st (.store 2 (.t 7) (.t 36)),
  fi 8 (.mv (.t 37))]))
 (.seq .stuck
 (.seq (.reg [] [fi 43 (.mv (.t 8))])
 (.ite (.t 43)
 (.seq (.reg [] [fi 44 (.mv (.t 0)),
  fi 45 (.load true 2 (.t 7)),
  fi 46 (.nilCheck (.t 44)),
  fi 47 (.fieldAddr 9 (.t 46)),
  st (.store 2 (.t 47) (.t 45))])
 (.reg [] [fi 48 (.mv (.t 0)),
  fi 49 (.fieldAddr 1 (.t 5)),
  fi 50 (.load false 1 (.t 49)),
  ei 51 (.call 28 [(.t 48), (.t 50)])]))
 .skip)))))))
theorem k_node_Node_apply : chkFn Tryz.prog n_node_Node_apply ⟨b_node_Node_apply, [], 52⟩ = true := by kernel_rfl
abbrev n_node_Node_check : Nat := 39
def b_node_Node_check : Cd := (.seq (.reg [] [fi 4 (.mv (.c (.bool false)))])
 (.seq (.seq (.reg [] [fi 5 (.mv (.t 1)),
  fi 6 (.bin .eql (.t 5) (.c (.int .i64 10))),
  fi 7 (.mv (.t 6)),
  .run ⟨(some 8), (some (7, false)), .f (.mv (.t 0))⟩,
  .run ⟨(some 9), (some (7, false)), .f (.nilCheck (.t 8))⟩,
  .run ⟨(some 10), (some (7, false)), .f (.fieldAddr 0 (.t 9))⟩,
  .run ⟨(some 11), (some (7, false)), .f (.load false 1 (.t 10))⟩,
  .run ⟨(some 12), (some (7, false)), .e (.call 72 [(.t 11)])⟩,
  .run ⟨(some 13), (some (7, false)), .f (.un .not (.t 12))⟩,
  fi 14 (.pick (.t 7) (.c (.bool true)) (.t 13))])
 (.ite (.t 14)
 (.reg [] [fi 15 (.mv (.t 0)),
  fi 16 (.nilCheck (.t 15)),
  fi 17 (.fieldAddr 19 (.t 16)),
  st (.store 1 (.t 17) (.c (.int .i64 10)))])
 .skip))
 (.seq (.reg [] [fi 18 (.mv (.t 1)),
  fi 19 (.bin .eql (.t 18) (.c (.int .i64 0))),
  fi 20 (.mv (.t 19)),
  .run ⟨(some 21), (some (20, true)), .f (.mv (.t 0))⟩,
  .run ⟨(some 22), (some (20, true)), .f (.nilCheck (.t 21))⟩,
  .run ⟨(some 23), (some (20, true)), .f (.fieldAddr 19 (.t 22))⟩,
  .run ⟨(some 24), (some (20, true)), .f (.load false 1 (.t 23))⟩,
  .run ⟨(some 25), (some (20, true)), .f (.bin .eql (.t 24) (.c (.int .i64 0)))⟩,
  fi 26 (.pick (.t 20) (.t 25) (.c (.bool false))),
  fi 4 (.mv (.t 26))])
 .ret)))
theorem k_node_Node_check : chkFn Tryz.prog n_node_Node_check ⟨b_node_Node_check, [.tmp 4], 27⟩ = true := by kernel_rfl
abbrev n_node_Node_end : Nat := 86
def b_node_Node_end : Cd := (.seq (.reg [] [ei 3 (.box (.t 1))])
 (.seq (.reg [0, 1, 2, 3, 4, 5, 6, 7] [fi 4 (.mv (.t 0)),
  fi 5 (.nilCheck (.t 4)),
  fi 6 (.fieldAddr 14 (.t 5)),
  fi 7 (.load false 1 (.t 6)),
  fi 8 (.fieldAddr 0 (.t 3)),
  fi 9 (.load false 1 (.t 8)),
  fi 10 (.lookup .int false (.ptr none) (.t 7) (.t 9)),
  fi 11 (.eq true .ptr (.t 10) (.c (.ptr none)))])
 (.ite (.t 11)
 (.seq (.reg [0, 1, 2, 3, 4, 5, 6] [fi 12 (.mv (.t 0)),
  fi 13 (.nilCheck (.t 12)),
  fi 14 (.fieldAddr 14 (.t 13)),
  fi 15 (.load false 1 (.t 14)),
  fi 16 (.fieldAddr 0 (.t 3)),
  fi 17 (.load false 1 (.t 16)),
  st (.delete .int (.t 15) (.t 17))])
 (.reg [0, 1, 2, 3, 4, 5, 6, 4, 7, 8, 9, 10] [fi 18 (.mv (.t 0)),
  fi 19 (.mv (.t 0)),
  fi 20 (.nilCheck (.t 19)),
  fi 21 (.fieldAddr 17 (.t 20)),
  fi 22 (.load false 1 (.t 21)),
  fi 23 (.load true 5 (.t 3)),
  ei 24 (.buildSlice 1 5 0 [(.int .u64 0), (.int .i64 0), (.sl [] 0 3 .nil), (.bool false), (.str (mkS []))] [(0, 5, (.t 23))]),
  .chk 22 none (.load false 1 (.t 21)),
  ei 25 (.append 5 64 false (.t 22) (.t 24)),
  fi 26 (.nilCheck (.t 18)),
  fi 27 (.fieldAddr 17 (.t 26)),
  st (.store 1 (.t 27) (.t 25))]))
 .skip)))
theorem k_node_Node_end : chkFn Tryz.prog n_node_Node_end ⟨b_node_Node_end, [], 28⟩ = true := by kernel_rfl
abbrev n_node_Node_fill : Nat := 27
def l_node_Node_fill_0 : Cd := (.seq (.reg [] [fi 30 (.bin .lss (.t 29) (.t 28))])
 (.seq (.ite (.t 30)
 .skip
 (.exit 0))
 (.seq (.blk 1 (.seq (.reg [] [fi 31 (.indexAddr 4 (.t 27) (.t 29)),
  fi 32 (.load true 4 (.t 31)),
  ei 5 (.alloc [(.int .u64 0), (.str (mkS [])), (.int .i64 0), (.str (mkS []))]),
  st (.store 4 (.t 5) (.t 32))])
 (.reg [0, 1, 2, 3, 4, 5, 6] [fi 33 (.mv (.t 1)),
  fi 34 (.nilCheck (.t 33)),
  fi 35 (.fieldAddr 1 (.t 34)),
  fi 36 (.load false 1 (.t 35)),
  fi 37 (.fieldAddr 1 (.t 5)),
  fi 38 (.load true 3 (.t 37)),
  ei 39 (.call 51 [(.t 36), (.t 38)])])))
 (.reg [] [fi 40 (.bin .add (.t 29) (.c (.int .i64 1))),
  fi 29 (.mv (.t 40))]))))
def b_node_Node_fill : Cd := (.seq (.reg [0, 1, 2, 3, 4, 5, 6, 7, 8, 9, 10, 11, 12, 13, 14, 15, 16, 17] [fi 7 (.mv (.t 1)),
  fi 8 (.mv (.t 0)),
  fi 9 (.nilCheck (.t 8)),
  fi 10 (.fieldAddr 2 (.t 9)),
  fi 11 (.fieldAddr 3 (.t 10)),
  fi 12 (.load false 1 (.t 11)),
  fi 13 (.mv (.t 0)),
  fi 14 (.nilCheck (.t 13)),
  fi 15 (.fieldAddr 2 (.t 14)),
  fi 16 (.fieldAddr 4 (.t 15)),
  fi 17 (.load false 1 (.t 16)),
  ei 18 (.call 24 [(.t 12), (.t 17)]),
  fi 6 (.mv (.t 18)),
  fi 19 (.extract (.t 6) 0),
  fi 20 (.extract (.t 6) 1),
  fi 21 (.nilCheck (.t 7)),
  fi 22 (.fieldAddr 1 (.t 21)),
  st (.store 1 (.t 22) (.t 19))])
 (.seq (.reg [] [fi 23 (.mv (.t 1)),
  fi 24 (.nilCheck (.t 23)),
  fi 25 (.fieldAddr 0 (.t 24)),
  fi 26 (.load false 1 (.t 25)),
  ei 27 (.call 32 [(.t 26)]),
  fi 28 (.len .sl (.t 27)),
  fi 29 (.mv (.c (.int .i64 0)))])
 (.blk 0 (.loop l_node_Node_fill_0))))
theorem k_node_Node_fill : chkFn Tryz.prog n_node_Node_fill ⟨b_node_Node_fill, [], 41⟩ = true := by kernel_rfl
abbrev n_node_Node_look : Nat := 28
def b_node_Node_look : Cd := (.seq (.reg [0, 1, 2, 3, 4, 5, 6, 7, 8, 9, 10, 11, 12, 13, 14, 15, 3, 6, 11, 14, 16, 17] [fi 7 (.mv (.t 0)),
  fi 8 (.nilCheck (.t 7)),
  fi 9 (.fieldAddr 12 (.t 8)),
  fi 10 (.load false 1 (.t 9)),
  fi 11 (.mv (.t 1)),
  fi 12 (.indexAddr 1 (.t 10) (.t 11)),
  fi 13 (.load false 1 (.t 12)),
  fi 14 (.mv (.t 0)),
  fi 15 (.nilCheck (.t 14)),
  fi 16 (.fieldAddr 9 (.t 15)),
  fi 17 (.fieldAddr 1 (.t 16)),
  fi 18 (.load false 1 (.t 17)),
  fi 19 (.mv (.t 1)),
  fi 20 (.indexAddr 4 (.t 18) (.t 19)),
  fi 21 (.load true 4 (.t 20)),
  ei 5 (.alloc [(.int .u64 0), (.int .u64 0), (.int .i64 0), (.sl [] 0 1 .nil)]),
  .chk 10 none (.load false 1 (.t 9)),
  .chk 13 none (.load false 1 (.t 12)),
  .chk 18 none (.load false 1 (.t 17)),
  .chk 21 none (.load true 4 (.t 20)),
  fi 4 (.mv (.t 13)),
  st (.store 4 (.t 5) (.t 21))])
 (.seq (.seq (.reg [0, 1, 2, 3, 4, 5, 6, 7, 8, 9, 10, 11, 12, 13, 14, 15, 16, 17, 18, 19, 20, 15, 21, 22, 23] [fi 22 (.mv (.t 4)),
  fi 23 (.nilCheck (.t 22)),
  fi 24 (.fieldAddr 2 (.t 23)),
  fi 25 (.load false 1 (.t 24)),
  fi 26 (.eq true .ptr (.t 25) (.c (.ptr none))),
  fi 27 (.mv (.t 26)),
  .run ⟨(some 28), (some (27, true)), .f (.fieldAddr 2 (.t 5))⟩,
  .run ⟨(some 29), (some (27, true)), .f (.load false 1 (.t 28))⟩,
  .run ⟨(some 30), (some (27, true)), .f (.mv (.t 0))⟩,
  .run ⟨(some 31), (some (27, true)), .f (.nilCheck (.t 30))⟩,
  .run ⟨(some 32), (some (27, true)), .f (.fieldAddr 1 (.t 31))⟩,
  .run ⟨(some 33), (some (27, true)), .f (.load false 1 (.t 32))⟩,
  .run ⟨(some 34), (some (27, true)), .f (.bin .neq (.t 29) (.t 33))⟩,
  .run ⟨(some 35), (some (27, true)), .f (.mv (.t 34))⟩,
  .run ⟨(some 36), (some (35, false)), .f (.fieldAddr 1 (.t 5))⟩,
  .run ⟨(some 37), (some (35, false)), .f (.load false 1 (.t 36))⟩,
  .run ⟨(some 38), (some (35, false)), .f (.mv (.t 4))⟩,
  .run ⟨(some 39), (some (35, false)), .f (.nilCheck (.t 38))⟩,
  .run ⟨(some 40), (some (35, false)), .f (.fieldAddr 2 (.t 39))⟩,
  .run ⟨(some 41), (some (35, false)), .f (.load false 1 (.t 40))⟩,
  .run ⟨(some 42), (some (35, false)), .e (.call 33 [(.t 41)])⟩,
  .chk 37 (some (35, false)) (.load false 1 (.t 36)),
  .run ⟨(some 43), (some (35, false)), .f (.bin .neq (.t 37) (.t 42))⟩,
  .run ⟨(some 44), (some (27, true)), .f (.pick (.t 35) (.c (.bool true)) (.t 43))⟩,
  fi 45 (.pick (.t 27) (.t 44) (.c (.bool false)))])
 (.ite (.t 45)
 (.reg [] [fi 46 (.mv (.t 0)),
  fi 47 (.mv (.t 4)),
  ei 48 (.call 52 [(.t 46), (.t 47)])])
 .skip))
 (.seq (.seq (.reg [] [fi 49 (.mv (.t 4)),
  fi 50 (.nilCheck (.t 49)),
  fi 51 (.fieldAddr 2 (.t 50)),
  fi 52 (.load false 1 (.t 51)),
  fi 53 (.eq true .ptr (.t 52) (.c (.ptr none)))])
 (.ite (.t 53)
 (.seq (.reg [0, 1, 2, 3, 4, 5, 6, 7, 8] [fi 54 (.mv (.t 4)),
  fi 55 (.nilCheck (.t 54)),
  fi 56 (.fieldAddr 2 (.t 55)),
  fi 57 (.load false 1 (.t 56)),
  fi 58 (.fieldAddr 0 (.t 5)),
  fi 59 (.load false 1 (.t 58)),
  fi 60 (.fieldAddr 3 (.t 5)),
  fi 61 (.load false 1 (.t 60)),
  ei 62 (.call 53 [(.t 57), (.t 59), (.t 61)])])
 (.seq (.reg [] [fi 63 (.mv (.t 0)),
  fi 64 (.mv (.t 1)),
  ei 65 (.call 54 [(.t 63), (.t 64)])])
 (.seq (.reg [] [fi 66 (.mv (.t 0)),
  fi 67 (.mv (.t 1)),
  ei 68 (.call 55 [(.t 66), (.t 67)])])
 .ret)))
 .skip))
 (.seq (.reg [0, 1, 2, 3, 4, 5, 6, 7, 8, 9, 10, 11, 12, 13, 14, 9, 15, 16, 17] [fi 69 (.fieldAddr 2 (.t 5)),
  fi 70 (.load false 1 (.t 69)),
  fi 71 (.mv (.t 0)),
  fi 72 (.nilCheck (.t 71)),
  fi 73 (.fieldAddr 1 (.t 72)),
  fi 74 (.load false 1 (.t 73)),
  fi 75 (.bin .eql (.t 70) (.t 74)),
  fi 76 (.mv (.t 75)),
  .run ⟨(some 77), (some (76, true)), .f (.fieldAddr 1 (.t 5))⟩,
  .run ⟨(some 78), (some (76, true)), .f (.load false 1 (.t 77))⟩,
  .run ⟨(some 79), (some (76, true)), .f (.mv (.t 4))⟩,
  .run ⟨(some 80), (some (76, true)), .f (.nilCheck (.t 79))⟩,
  .run ⟨(some 81), (some (76, true)), .f (.fieldAddr 0 (.t 80))⟩,
  .run ⟨(some 82), (some (76, true)), .f (.load false 1 (.t 81))⟩,
  .run ⟨(some 83), (some (76, true)), .e (.call 56 [(.t 82)])⟩,
  .chk 78 (some (76, true)) (.load false 1 (.t 77)),
  .run ⟨(some 84), (some (76, true)), .f (.field false 1 1 (.t 83))⟩,
  .run ⟨(some 85), (some (76, true)), .f (.bin .gtr (.t 78) (.t 84))⟩,
  fi 86 (.pick (.t 76) (.t 85) (.c (.bool false)))])
 (.ite (.t 86)
 (.seq (.reg [0, 1, 2, 3, 4, 5, 6, 7] [fi 87 (.mv (.t 4)),
  fi 88 (.nilCheck (.t 87)),
  fi 89 (.fieldAddr 0 (.t 88)),
  fi 90 (.load false 1 (.t 89)),
  fi 91 (.fieldAddr 1 (.t 5)),
  fi 92 (.load false 1 (.t 91)),
  ei 93 (.call 57 [(.t 90), (.t 92)]),
  fi 6 (.mv (.t 93))])
 (.seq (.reg [] [fi 94 (.mv (.t 0)),
  fi 95 (.mv (.t 6)),
  ei 96 (.call 39 [(.t 94), (.t 95)])])
 (.ite (.t 96)
 (.seq (.reg [0, 1, 2, 3, 4, 5, 6, 7, 8, 9, 10, 11, 12, 13, 14] [fi 97 (.mv (.t 4)),
  fi 98 (.mv (.t 0)),
  fi 99 (.nilCheck (.t 98)),
  fi 100 (.fieldAddr 1 (.t 99)),
  fi 101 (.load false 1 (.t 100)),
  fi 102 (.fieldAddr 1 (.t 5)),
  fi 103 (.load false 1 (.t 102)),
  fi 104 (.fieldAddr 0 (.t 5)),
  fi 105 (.load false 1 (.t 104)),
  fi 106 (.fieldAddr 3 (.t 5)),
  fi 107 (.load false 1 (.t 106)),
  ei 108 (.call 58 [(.t 101), (.t 103), (.t 105), (.t 107)]),
  fi 109 (.nilCheck (.t 97)),
  fi 110 (.fieldAddr 2 (.t 109)),
  st (.store 1 (.t 110) (.t 108))])
 (.reg [] [fi 111 (.mv (.t 0)),
  fi 112 (.mv (.t 1)),
  ei 113 (.call 59 [(.t 111), (.t 112)])]))
 .skip)))
 .skip)))))
theorem k_node_Node_look : chkFn Tryz.prog n_node_Node_look ⟨b_node_Node_look, [], 114⟩ = true := by kernel_rfl
abbrev n_node_Node_page : Nat := 87
def l_node_Node_page_0 : Cd := (.seq (.reg [] [fi 43 (.bin .lss (.t 42) (.t 41))])
 (.seq (.ite (.t 43)
 .skip
 (.exit 2))
 (.seq (.blk 3 (.seq (.reg [] [fi 44 (.indexAddr 4 (.t 40) (.t 42)),
  fi 45 (.load true 4 (.t 44)),
  ei 15 (.alloc [(.int .u64 0), (.str (mkS [])), (.int .i64 0), (.str (mkS []))]),
  st (.store 4 (.t 15) (.t 45))])
 (.reg [] [fi 46 (.mv (.t 13)),
  fi 47 (.fieldAddr 1 (.t 15)),
  fi 48 (.load true 3 (.t 47)),
  ei 49 (.buildSlice 1 3 0 [(.str (mkS [])), (.int .i64 0), (.str (mkS []))] [(0, 3, (.t 48))]),
  ei 50 (.append 3 40 false (.t 46) (.t 49)),
  fi 13 (.mv (.t 50))])))
 (.reg [] [fi 51 (.bin .add (.t 42) (.c (.int .i64 1))),
  fi 42 (.mv (.t 51))]))))
def s_node_Node_page_0 : Cd := (.seq (.reg [] [fi 52 (.mv (.t 9)),
  fi 53 (.mv (.t 52)),
  .run ⟨(some 54), (some (53, false)), .f (.mv (.t 12))⟩,
  .run ⟨(some 55), (some (53, false)), .f (.nilCheck (.t 54))⟩,
  .run ⟨(some 56), (some (53, false)), .f (.fieldAddr 1 (.t 55))⟩,
  .run ⟨(some 57), (some (53, false)), .f (.load false 1 (.t 56))⟩,
  fi 58 (.pick (.t 53) (.c (.bool true)) (.t 57)),
  fi 9 (.mv (.t 58))])
 (.reg [0, 1, 2, 3, 4, 5, 6, 7, 8, 9, 10, 11, 1, 12, 13, 14] [fi 59 (.fieldAddr 2 (.t 10)),
  fi 60 (.load false 1 (.t 59)),
  fi 61 (.mv (.t 12)),
  fi 62 (.nilCheck (.t 61)),
  fi 63 (.fieldAddr 5 (.t 62)),
  fi 64 (.load false 1 (.t 63)),
  fi 65 (.mv (.t 12)),
  fi 66 (.nilCheck (.t 65)),
  fi 67 (.fieldAddr 6 (.t 66)),
  fi 68 (.load false 1 (.t 67)),
  fi 69 (.build [(.int .u64 0), (.int .i64 0)] [(0, 1, (.t 64)), (1, 1, (.t 68))]),
  ei 70 (.buildSlice 1 2 0 [(.int .u64 0), (.int .i64 0)] [(0, 2, (.t 69))]),
  .chk 60 none (.load false 1 (.t 59)),
  ei 71 (.append 2 16 false (.t 60) (.t 70)),
  fi 72 (.fieldAddr 2 (.t 10)),
  st (.store 1 (.t 72) (.t 71))]))
def l_node_Node_page_1 : Cd := (.seq (.reg [] [fi 32 (.bin .lss (.t 31) (.t 30))])
 (.seq (.ite (.t 32)
 .skip
 (.exit 0))
 (.seq (.blk 1 (.seq (.reg [] [fi 33 (.indexAddr 1 (.t 29) (.t 31)),
  fi 34 (.load false 1 (.t 33)),
  fi 12 (.mv (.t 34))])
 (.seq (.reg [] [fi 13 (.mv (.c (.sl [] 0 3 .nil)))])
 (.seq (.seq (.reg [] [fi 35 (.mv (.t 12)),
  fi 36 (.eq true .ptr (.t 35) (.c (.ptr none)))])
 (.ite (.t 36)
 (.seq (.seq (.reg [] [fi 37 (.mv (.t 12)),
  fi 38 (.nilCheck (.t 37)),
  fi 39 (.fieldAddr 12 (.t 38)),
  fi 40 (.load false 1 (.t 39)),
  fi 41 (.len .sl (.t 40)),
  fi 42 (.mv (.c (.int .i64 0)))])
 (.blk 2 (.loop l_node_Node_page_0)))
 s_node_Node_page_0)
 .skip))
 (.reg [] [fi 73 (.mv (.t 8)),
  fi 74 (.mv (.t 13)),
  ei 75 (.buildSlice 1 1 0 [(.sl [] 0 3 .nil)] [(0, 1, (.t 74))]),
  ei 76 (.append 1 24 false (.t 73) (.t 75)),
  fi 8 (.mv (.t 76))])))))
 (.reg [] [fi 77 (.bin .add (.t 31) (.c (.int .i64 1))),
  fi 31 (.mv (.t 77))]))))
def s_node_Node_page_1 : Cd := (.seq (.reg [] [fi 79 (.mv (.t 8)),
  fi 80 (.fieldAddr 1 (.t 10)),
  fi 81 (.load false 1 (.t 80)),
  ei 82 (.call 142 [(.t 79), (.t 81)]),
  fi 78 (.mv (.t 82)),
  fi 83 (.extract (.t 78) 0),
  fi 84 (.extract (.t 78) 1),
  fi 85 (.extract (.t 78) 2),
  fi 16 (.mv (.t 83)),
  fi 17 (.mv (.t 84)),
  fi 18 (.mv (.t 85))])
 (.seq (.reg [] [fi 86 (.mv (.t 16)),
  fi 87 (.mv (.t 3)),
  fi 88 (.build [(.sl [] 0 3 .nil), (.bool false), (.str (mkS []))] [(0, 1, (.t 86)), (1, 1, (.t 87))]),
  ei 19 (.alloc [(.sl [] 0 3 .nil), (.bool false), (.str (mkS []))]),
  st (.store 3 (.t 19) (.t 88))])
 (.seq (.seq (.reg [] [fi 89 (.mv (.t 3)),
  fi 90 (.mv (.t 89)),
  .run ⟨(some 91), (some (90, true)), .f (.mv (.t 9))⟩,
  .run ⟨(some 92), (some (90, true)), .f (.mv (.t 91))⟩,
  .run ⟨(some 93), (some (92, false)), .f (.mv (.t 17))⟩,
  .run ⟨(some 94), (some (90, true)), .f (.pick (.t 92) (.c (.bool true)) (.t 93))⟩,
  fi 95 (.pick (.t 90) (.t 94) (.c (.bool false))),
  fi 96 (.mv (.t 95)),
  .run ⟨(some 97), (some (96, true)), .f (.mv (.t 16))⟩,
  .run ⟨(some 98), (some (96, true)), .f (.len .sl (.t 97))⟩,
  .run ⟨(some 99), (some (96, true)), .f (.bin .gtr (.t 98) (.c (.int .i64 0)))⟩,
  fi 100 (.pick (.t 96) (.t 99) (.c (.bool false)))])
 (.ite (.t 100)
 (.seq (.reg [] [fi 101 (.mv (.t 16)),
  fi 102 (.mv (.t 16)),
  fi 103 (.len .sl (.t 102)),
  fi 104 (.bin .sub (.t 103) (.c (.int .i64 1))),
  fi 105 (.indexAddr 3 (.t 101) (.t 104)),
  fi 106 (.load true 3 (.t 105)),
  ei 20 (.alloc [(.str (mkS [])), (.int .i64 0), (.str (mkS []))]),
  st (.store 3 (.t 20) (.t 106))])
 (.seq (.reg [0, 1, 2, 3, 4, 5, 1, 3, 6, 7, 3, 8, 9] [fi 107 (.fieldAddr 1 (.t 20)),
  fi 108 (.load false 1 (.t 107)),
  fi 109 (.fieldAddr 0 (.t 20)),
  fi 110 (.load false 1 (.t 109)),
  fi 111 (.fieldAddr 3 (.t 10)),
  st (.store 1 (.t 111) (.c (.bool false))),
  .chk 108 none (.load false 1 (.t 107)),
  .chk 110 none (.load false 1 (.t 109)),
  fi 112 (.fieldAddr 4 (.t 10)),
  st (.store 1 (.t 112) (.t 108)),
  .chk 110 none (.load false 1 (.t 109)),
  fi 113 (.fieldAddr 5 (.t 10)),
  st (.store 1 (.t 113) (.t 110))])
 (.reg [] [fi 115 (.load true 6 (.t 10)),
  ei 116 (.call 143 [(.t 115)]),
  fi 114 (.mv (.t 116)),
  fi 117 (.extract (.t 114) 0),
  fi 118 (.extract (.t 114) 1),
  fi 119 (.fieldAddr 2 (.t 19)),
  st (.store 1 (.t 119) (.t 117))])))
 .skip))
 (.reg [] [fi 120 (.mv (.t 0)),
  fi 121 (.mv (.t 1)),
  fi 122 (.load true 3 (.t 19)),
  fi 123 (.build [(.int .u64 0), (.int .i64 0), (.sl [] 0 3 .nil), (.bool false), (.str (mkS []))] [(0, 1, (.t 121)), (2, 3, (.t 122))]),
  ei 124 (.call 86 [(.t 120), (.t 123)])]))))
def b_node_Node_page : Cd := (.seq (.reg [] [fi 8 (.mv (.c (.sl [] 0 1 .nil)))])
 (.seq (.reg [] [fi 9 (.mv (.c (.bool false)))])
 (.seq (.reg [] [fi 21 (.mv (.t 2)),
  fi 22 (.nilCheck (.t 21)),
  fi 23 (.fieldAddr 6 (.t 22)),
  fi 24 (.load true 6 (.t 23)),
  ei 10 (.alloc [(.str (mkS [])), (.int .i64 0), (.sl [] 0 2 .nil), (.bool false), (.int .i64 0), (.str (mkS []))]),
  st (.store 6 (.t 10) (.t 24))])
 (.seq (.reg [] [fi 25 (.fieldAddr 2 (.t 10)),
  st (.store 1 (.t 25) (.c (.sl [] 0 2 .nil)))])
 (.seq (.seq (.reg [] [fi 26 (.mv (.t 2)),
  fi 27 (.nilCheck (.t 26)),
  fi 28 (.fieldAddr 12 (.t 27)),
  fi 29 (.load false 1 (.t 28)),
  fi 30 (.len .sl (.t 29)),
  fi 31 (.mv (.c (.int .i64 0)))])
 (.blk 0 (.loop l_node_Node_page_1)))
 s_node_Node_page_1)))))
theorem k_node_Node_page : chkFn Tryz.prog n_node_Node_page ⟨b_node_Node_page, [], 125⟩ = true := by kernel_rfl
abbrev n_node_Node_push : Nat := 36
def k_node_Node_push_0 : Cd := (.seq (.reg [] [fi 46 (.mv (.t 44)),
  fi 47 (.indexAddr 1 (.t 42) (.t 44)),
  fi 48 (.load false 1 (.t 47)),
  fi 6 (.mv (.t 46)),
  fi 7 (.mv (.t 48))])
 (.seq (.seq (.reg [] [fi 49 (.mv (.t 7)),
  fi 50 (.eq true .ptr (.t 49) (.c (.ptr none)))])
 (.ite (.t 50)
 (.exit 1)
 .skip))
 (.seq (.reg [0, 1, 2, 3, 4, 5, 6, 7, 8, 9, 10, 11, 12, 13, 14, 15, 16, 17, 18, 19, 20, 21, 22, 23, 24, 25, 26, 27, 28, 6, 11, 16, 21, 26, 29] [fi 51 (.mv (.t 1)),
  fi 52 (.mv (.t 6)),
  fi 53 (.mv (.t 2)),
  fi 54 (.nilCheck (.t 53)),
  fi 55 (.fieldAddr 6 (.t 54)),
  fi 56 (.fieldAddr 0 (.t 55)),
  fi 57 (.load false 1 (.t 56)),
  fi 58 (.mv (.t 2)),
  fi 59 (.nilCheck (.t 58)),
  fi 60 (.fieldAddr 6 (.t 59)),
  fi 61 (.fieldAddr 1 (.t 60)),
  fi 62 (.load false 1 (.t 61)),
  fi 63 (.mv (.t 2)),
  fi 64 (.nilCheck (.t 63)),
  fi 65 (.fieldAddr 6 (.t 64)),
  fi 66 (.fieldAddr 3 (.t 65)),
  fi 67 (.load false 1 (.t 66)),
  fi 68 (.mv (.t 2)),
  fi 69 (.nilCheck (.t 68)),
  fi 70 (.fieldAddr 6 (.t 69)),
  fi 71 (.fieldAddr 4 (.t 70)),
  fi 72 (.load false 1 (.t 71)),
  fi 73 (.mv (.t 2)),
  fi 74 (.nilCheck (.t 73)),
  fi 75 (.fieldAddr 6 (.t 74)),
  fi 76 (.fieldAddr 5 (.t 75)),
  fi 77 (.load false 1 (.t 76)),
  fi 78 (.build [(.int .u8 0), (.bool false), (.bool false), (.int .i64 0), (.int .u64 0), (.int .u64 0), (.int .i64 0), (.int .i64 0), (.int .i64 0), (.int .i64 0), (.str (mkS [])), (.str (mkS [])), (.sl [] 0 4 .nil)] [(0, 1, (.c (.int .u8 12))), (4, 1, (.t 51)), (3, 1, (.t 52)), (11, 1, (.t 57)), (8, 1, (.t 62)), (1, 1, (.t 67)), (9, 1, (.t 72)), (10, 1, (.t 77))]),
  ei 8 (.alloc [(.int .u8 0), (.bool false), (.bool false), (.int .i64 0), (.int .u64 0), (.int .u64 0), (.int .i64 0), (.int .i64 0), (.int .i64 0), (.int .i64 0), (.str (mkS [])), (.str (mkS [])), (.sl [] 0 4 .nil)]),
  .chk 57 none (.load false 1 (.t 56)),
  .chk 62 none (.load false 1 (.t 61)),
  .chk 67 none (.load false 1 (.t 66)),
  .chk 72 none (.load false 1 (.t 71)),
  .chk 77 none (.load false 1 (.t 76)),
  st (.store 13 (.t 8) (.t 78))])
 (.seq (.seq (.reg [] [fi 79 (.mv (.t 2)),
  fi 80 (.nilCheck (.t 79)),
  fi 81 (.fieldAddr 6 (.t 80)),
  fi 82 (.fieldAddr 2 (.t 81)),
  fi 83 (.load false 1 (.t 82)),
  fi 84 (.len .sl (.t 83)),
  fi 85 (.bin .gtr (.t 84) (.c (.int .i64 0)))])
 (.ite (.t 85)
 (.reg [0, 1, 2, 3, 4, 5, 6, 7, 8, 9, 10, 11, 12, 13, 14, 15, 16, 17, 18, 19, 4, 8, 13, 17, 20, 21, 13, 17, 22, 23] [fi 86 (.mv (.t 2)),
  fi 87 (.nilCheck (.t 86)),
  fi 88 (.fieldAddr 6 (.t 87)),
  fi 89 (.fieldAddr 2 (.t 88)),
  fi 90 (.load false 1 (.t 89)),
  fi 91 (.mv (.t 6)),
  fi 92 (.indexAddr 2 (.t 90) (.t 91)),
  fi 93 (.fieldAddr 0 (.t 92)),
  fi 94 (.load false 1 (.t 93)),
  fi 95 (.mv (.t 2)),
  fi 96 (.nilCheck (.t 95)),
  fi 97 (.fieldAddr 6 (.t 96)),
  fi 98 (.fieldAddr 2 (.t 97)),
  fi 99 (.load false 1 (.t 98)),
  fi 100 (.mv (.t 6)),
  fi 101 (.indexAddr 2 (.t 99) (.t 100)),
  fi 102 (.fieldAddr 1 (.t 101)),
  fi 103 (.load false 1 (.t 102)),
  fi 104 (.fieldAddr 2 (.t 8)),
  st (.store 1 (.t 104) (.c (.bool true))),
  .chk 90 none (.load false 1 (.t 89)),
  .chk 94 none (.load false 1 (.t 93)),
  .chk 99 none (.load false 1 (.t 98)),
  .chk 103 none (.load false 1 (.t 102)),
  fi 105 (.fieldAddr 5 (.t 8)),
  st (.store 1 (.t 105) (.t 94)),
  .chk 99 none (.load false 1 (.t 98)),
  .chk 103 none (.load false 1 (.t 102)),
  fi 106 (.fieldAddr 6 (.t 8)),
  st (.store 1 (.t 106) (.t 103))])
 .skip))
 (.reg [0, 1, 2, 3, 4, 5, 6, 7, 8, 9, 10, 11] [fi 107 (.mv (.t 0)),
  fi 108 (.mv (.t 0)),
  fi 109 (.nilCheck (.t 108)),
  fi 110 (.fieldAddr 9 (.t 109)),
  fi 111 (.fieldAddr 1 (.t 110)),
  fi 112 (.load false 1 (.t 111)),
  fi 113 (.mv (.t 6)),
  fi 114 (.indexAddr 4 (.t 112) (.t 113)),
  fi 115 (.fieldAddr 2 (.t 114)),
  fi 116 (.load false 1 (.t 115)),
  fi 117 (.load true 13 (.t 8)),
  ei 118 (.call 67 [(.t 107), (.t 116), (.t 117)])])))))
def l_node_Node_push_0 : Cd := (.seq (.reg [] [fi 45 (.bin .lss (.t 44) (.t 43))])
 (.seq (.ite (.t 45)
 .skip
 (.exit 0))
 (.seq (.blk 1 k_node_Node_push_0)
 (.reg [] [fi 119 (.bin .add (.t 44) (.c (.int .i64 1))),
  fi 44 (.mv (.t 119))]))))
def b_node_Node_push : Cd := (.seq (.seq (.reg [] [fi 9 (.mv (.t 2)),
  fi 10 (.nilCheck (.t 9)),
  fi 11 (.fieldAddr 1 (.t 10)),
  fi 12 (.load false 1 (.t 11))])
 (.ite (.t 12)
 (.seq (.reg [0, 1, 2, 3, 4, 5, 6, 7, 8, 9, 10, 11, 12, 13, 14, 15, 16, 17, 18, 19, 20, 21, 22, 23, 5, 9, 12, 17, 24, 25] [fi 13 (.mv (.t 0)),
  fi 14 (.mv (.t 0)),
  fi 15 (.nilCheck (.t 14)),
  fi 16 (.fieldAddr 9 (.t 15)),
  fi 17 (.fieldAddr 1 (.t 16)),
  fi 18 (.load false 1 (.t 17)),
  fi 19 (.mv (.t 2)),
  fi 20 (.nilCheck (.t 19)),
  fi 21 (.fieldAddr 5 (.t 20)),
  fi 22 (.load false 1 (.t 21)),
  fi 23 (.indexAddr 4 (.t 18) (.t 22)),
  fi 24 (.fieldAddr 2 (.t 23)),
  fi 25 (.load false 1 (.t 24)),
  fi 26 (.mv (.t 1)),
  fi 27 (.mv (.t 2)),
  fi 28 (.nilCheck (.t 27)),
  fi 29 (.fieldAddr 5 (.t 28)),
  fi 30 (.load false 1 (.t 29)),
  fi 31 (.mv (.t 2)),
  fi 32 (.nilCheck (.t 31)),
  fi 33 (.fieldAddr 2 (.t 32)),
  fi 34 (.load true 3 (.t 33)),
  fi 35 (.build [(.int .u64 0), (.str (mkS [])), (.int .i64 0), (.str (mkS []))] [(1, 3, (.t 34))]),
  ei 36 (.buildSlice 1 4 0 [(.int .u64 0), (.str (mkS [])), (.int .i64 0), (.str (mkS []))] [(0, 4, (.t 35))]),
  .chk 18 none (.load false 1 (.t 17)),
  .chk 22 none (.load false 1 (.t 21)),
  .chk 25 none (.load false 1 (.t 24)),
  .chk 30 none (.load false 1 (.t 29)),
  fi 37 (.build [(.int .u8 0), (.bool false), (.bool false), (.int .i64 0), (.int .u64 0), (.int .u64 0), (.int .i64 0), (.int .i64 0), (.int .i64 0), (.int .i64 0), (.str (mkS [])), (.str (mkS [])), (.sl [] 0 4 .nil)] [(0, 1, (.c (.int .u8 10))), (4, 1, (.t 26)), (3, 1, (.t 30)), (12, 1, (.t 36))]),
  ei 38 (.call 67 [(.t 13), (.t 25), (.t 37)])])
 .ret)
 .skip))
 (.seq (.reg [] [fi 39 (.mv (.t 2)),
  fi 40 (.nilCheck (.t 39)),
  fi 41 (.fieldAddr 12 (.t 40)),
  fi 42 (.load false 1 (.t 41)),
  fi 43 (.len .sl (.t 42)),
  fi 44 (.mv (.c (.int .i64 0)))])
 (.blk 0 (.loop l_node_Node_push_0))))
theorem k_node_Node_push : chkFn Tryz.prog n_node_Node_push ⟨b_node_Node_push, [], 120⟩ = true := by kernel_rfl
abbrev n_node_Node_seek : Nat := 38
def b_node_Node_seek : Cd := (.seq (.reg [] [ei 5 (.box (.t 2)),
  fi 6 (.mv (.c (.int .i64 0)))])
 (.seq (.seq (.reg [] [fi 8 (.mv (.t 0)),
  fi 9 (.nilCheck (.t 8)),
  fi 10 (.fieldAddr 19 (.t 9)),
  fi 11 (.load false 1 (.t 10)),
  fi 12 (.bin .neq (.t 11) (.c (.int .i64 0)))])
 (.ite (.t 12)
 (.seq (.reg [] [fi 13 (.mv (.t 0)),
  fi 14 (.nilCheck (.t 13)),
  fi 15 (.fieldAddr 19 (.t 14)),
  fi 16 (.load false 1 (.t 15)),
  fi 6 (.mv (.t 16))])
 .ret)
 .skip))
 (.seq (.reg [0, 1, 2, 3, 4, 5, 6, 0, 7, 8, 9] [fi 17 (.load true 6 (.t 5)),
  fi 18 (.mv (.t 0)),
  fi 19 (.nilCheck (.t 18)),
  fi 20 (.fieldAddr 2 (.t 19)),
  fi 21 (.fieldAddr 1 (.t 20)),
  fi 22 (.load false 1 (.t 21)),
  ei 23 (.makeSlice 1 8 false [(.ptr none)] (.t 22) (.t 22)),
  .chk 17 none (.load true 6 (.t 5)),
  fi 24 (.build [(.int .i64 0), (.bool false), (.str (mkS [])), (.int .i64 0), (.str (mkS [])), (.int .i64 0), (.str (mkS [])), (.int .i64 0), (.sl [] 0 2 .nil), (.bool false), (.int .i64 0), (.str (mkS [])), (.sl [] 0 1 .nil)] [(6, 6, (.t 17)), (12, 1, (.t 23))]),
  ei 25 (.box (.t 24)),
  fi 7 (.mv (.t 25))])
 (.seq (.reg [] [fi 26 (.mv (.t 0)),
  fi 27 (.nilCheck (.t 26)),
  fi 28 (.fieldAddr 14 (.t 27)),
  fi 29 (.load false 1 (.t 28)),
  fi 30 (.mv (.t 1)),
  fi 31 (.mv (.t 7)),
  st (.mapSet .int (.t 29) (.t 30) (.t 31))])
 (.seq (.reg [] [fi 32 (.mv (.t 0)),
  fi 33 (.mv (.t 1)),
  fi 34 (.mv (.t 7)),
  ei 35 (.call 36 [(.t 32), (.t 33), (.t 34)])])
 (.seq (.reg [] [fi 36 (.mv (.t 0)),
  ei 37 (.call 29 [(.t 36)])])
 (.seq (.reg [] [fi 38 (.mv (.t 0)),
  fi 39 (.nilCheck (.t 38)),
  fi 40 (.fieldAddr 19 (.t 39)),
  fi 41 (.load false 1 (.t 40)),
  fi 6 (.mv (.t 41))])
 .ret)))))))
theorem k_node_Node_seek : chkFn Tryz.prog n_node_Node_seek ⟨b_node_Node_seek, [.tmp 6], 42⟩ = true := by kernel_rfl
abbrev n_node_Node_send : Nat := 67
def b_node_Node_send : Cd := (.seq (.reg [] [ei 5 (.box (.t 2))])
 (.seq (.seq (.reg [] [fi 6 (.mv (.t 1)),
  fi 7 (.mv (.t 0)),
  fi 8 (.nilCheck (.t 7)),
  fi 9 (.fieldAddr 1 (.t 8)),
  fi 10 (.load false 1 (.t 9)),
  fi 11 (.bin .eql (.t 6) (.t 10))])
 (.ite (.t 11)
 (.seq (.reg [0, 1, 2, 3, 4, 5, 6, 4, 7, 8, 9, 10] [fi 12 (.mv (.t 0)),
  fi 13 (.mv (.t 0)),
  fi 14 (.nilCheck (.t 13)),
  fi 15 (.fieldAddr 16 (.t 14)),
  fi 16 (.load false 1 (.t 15)),
  fi 17 (.load true 13 (.t 5)),
  ei 18 (.buildSlice 1 13 0 [(.int .u8 0), (.bool false), (.bool false), (.int .i64 0), (.int .u64 0), (.int .u64 0), (.int .i64 0), (.int .i64 0), (.int .i64 0), (.int .i64 0), (.str (mkS [])), (.str (mkS [])), (.sl [] 0 4 .nil)] [(0, 13, (.t 17))]),
  .chk 16 none (.load false 1 (.t 15)),
  ei 19 (.append 13 120 false (.t 16) (.t 18)),
  fi 20 (.nilCheck (.t 12)),
  fi 21 (.fieldAddr 16 (.t 20)),
  st (.store 1 (.t 21) (.t 19))])
 .ret)
 .skip))
 (.reg [0, 1, 2, 3, 4, 5, 6, 7, 8, 9, 10, 11, 4, 8, 12, 13, 4, 14, 15, 16, 17] [fi 22 (.mv (.t 0)),
  fi 23 (.mv (.t 0)),
  fi 24 (.nilCheck (.t 23)),
  fi 25 (.fieldAddr 15 (.t 24)),
  fi 26 (.load false 1 (.t 25)),
  fi 27 (.mv (.t 0)),
  fi 28 (.nilCheck (.t 27)),
  fi 29 (.fieldAddr 1 (.t 28)),
  fi 30 (.load false 1 (.t 29)),
  fi 31 (.mv (.t 1)),
  fi 32 (.load true 13 (.t 5)),
  ei 33 (.call 117 [(.t 32)]),
  .chk 26 none (.load false 1 (.t 25)),
  .chk 30 none (.load false 1 (.t 29)),
  fi 34 (.build [(.int .i64 0), (.int .i64 0), (.sl [] 0 1 .nil)] [(0, 1, (.t 30)), (1, 1, (.t 31)), (2, 1, (.t 33))]),
  ei 35 (.buildSlice 1 3 0 [(.int .i64 0), (.int .i64 0), (.sl [] 0 1 .nil)] [(0, 3, (.t 34))]),
  .chk 26 none (.load false 1 (.t 25)),
  ei 36 (.append 3 40 false (.t 26) (.t 35)),
  fi 37 (.nilCheck (.t 22)),
  fi 38 (.fieldAddr 15 (.t 37)),
  st (.store 1 (.t 38) (.t 36))])))
theorem k_node_Node_send : chkFn Tryz.prog n_node_Node_send ⟨b_node_Node_send, [], 39⟩ = true := by kernel_rfl
abbrev n_node_Node_settle : Nat := 29
def k_node_Node_settle_0 : Cd := (.seq (.reg [] [fi 18 (.indexAddr 3 (.t 14) (.t 16)),
  fi 19 (.load true 3 (.t 18)),
  ei 3 (.alloc [(.int .i64 0), (.int .i64 0), (.sl [] 0 1 .nil)]),
  st (.store 3 (.t 3) (.t 19))])
 (.reg [0, 1, 2, 3, 4, 5, 6, 7, 8, 10, 11, 9, 4, 6, 8, 11, 12, 4, 6, 8, 13, 14, 4, 15, 16, 17, 18] [fi 20 (.mv (.t 0)),
  fi 21 (.mv (.t 0)),
  fi 22 (.nilCheck (.t 21)),
  fi 23 (.fieldAddr 15 (.t 22)),
  fi 24 (.load false 1 (.t 23)),
  fi 25 (.fieldAddr 0 (.t 3)),
  fi 26 (.load false 1 (.t 25)),
  fi 27 (.fieldAddr 1 (.t 3)),
  fi 28 (.load false 1 (.t 27)),
  fi 30 (.fieldAddr 2 (.t 3)),
  fi 31 (.load false 1 (.t 30)),
  ei 29 (.buildSlice 1 1 0 [(.int .u8 0)] [(0, 1, (.c (.int .u8 1)))]),
  .chk 24 none (.load false 1 (.t 23)),
  .chk 26 none (.load false 1 (.t 25)),
  .chk 28 none (.load false 1 (.t 27)),
  .chk 31 none (.load false 1 (.t 30)),
  ei 32 (.append 1 1 false (.t 29) (.t 31)),
  .chk 24 none (.load false 1 (.t 23)),
  .chk 26 none (.load false 1 (.t 25)),
  .chk 28 none (.load false 1 (.t 27)),
  fi 33 (.build [(.int .i64 0), (.int .i64 0), (.sl [] 0 1 .nil)] [(0, 1, (.t 26)), (1, 1, (.t 28)), (2, 1, (.t 32))]),
  ei 34 (.buildSlice 1 3 0 [(.int .i64 0), (.int .i64 0), (.sl [] 0 1 .nil)] [(0, 3, (.t 33))]),
  .chk 24 none (.load false 1 (.t 23)),
  ei 35 (.append 3 40 false (.t 24) (.t 34)),
  fi 36 (.nilCheck (.t 20)),
  fi 37 (.fieldAddr 15 (.t 36)),
  st (.store 1 (.t 37) (.t 35))]))
def l_node_Node_settle_0 : Cd := (.seq (.reg [] [fi 17 (.bin .lss (.t 16) (.t 15))])
 (.seq (.ite (.t 17)
 .skip
 (.exit 2))
 (.seq (.blk 3 k_node_Node_settle_0)
 (.reg [] [fi 38 (.bin .add (.t 16) (.c (.int .i64 1))),
  fi 16 (.mv (.t 38))]))))
def k_node_Node_settle_1 : Cd := (.seq (.reg [0, 1, 2, 3, 4, 5, 6, 7, 8, 3, 9, 10] [fi 40 (.mv (.t 0)),
  fi 41 (.nilCheck (.t 40)),
  fi 42 (.fieldAddr 11 (.t 41)),
  fi 43 (.load false 1 (.t 42)),
  fi 44 (.mv (.t 0)),
  fi 45 (.nilCheck (.t 44)),
  fi 46 (.fieldAddr 8 (.t 45)),
  fi 47 (.load false 1 (.t 46)),
  ei 48 (.call 61 [(.t 47)]),
  .chk 43 none (.load false 1 (.t 42)),
  fi 49 (.bin .lss (.t 43) (.t 48)),
  fi 39 (.mv (.t 49))])
 (.ite (.t 39)
 (.seq (.reg [] [fi 50 (.mv (.t 0)),
  fi 51 (.nilCheck (.t 50)),
  fi 52 (.fieldAddr 11 (.t 51)),
  fi 53 (.load false 1 (.t 52)),
  fi 54 (.bin .add (.t 53) (.c (.int .i64 1))),
  fi 55 (.nilCheck (.t 50)),
  fi 56 (.fieldAddr 11 (.t 55)),
  st (.store 1 (.t 56) (.t 54))])
 (.reg [] [fi 57 (.mv (.t 0)),
  ei 58 (.call 62 [(.t 57)])]))
 (.seq (.reg [] [fi 60 (.mv (.t 0)),
  fi 61 (.nilCheck (.t 60)),
  fi 62 (.fieldAddr 16 (.t 61)),
  fi 63 (.load false 1 (.t 62)),
  fi 64 (.len .sl (.t 63)),
  fi 65 (.bin .gtr (.t 64) (.c (.int .i64 0))),
  fi 59 (.mv (.t 65))])
 (.ite (.t 59)
 (.seq (.reg [] [fi 66 (.mv (.t 0)),
  fi 67 (.nilCheck (.t 66)),
  fi 68 (.fieldAddr 16 (.t 67)),
  fi 69 (.load false 1 (.t 68)),
  fi 70 (.indexAddr 13 (.t 69) (.c (.int .i64 0))),
  fi 71 (.load true 13 (.t 70)),
  ei 4 (.alloc [(.int .u8 0), (.bool false), (.bool false), (.int .i64 0), (.int .u64 0), (.int .u64 0), (.int .i64 0), (.int .i64 0), (.int .i64 0), (.int .i64 0), (.str (mkS [])), (.str (mkS [])), (.sl [] 0 4 .nil)]),
  st (.store 13 (.t 4) (.t 71))])
 (.seq (.reg [] [fi 72 (.mv (.t 0)),
  fi 73 (.mv (.t 0)),
  fi 74 (.nilCheck (.t 73)),
  fi 75 (.fieldAddr 16 (.t 74)),
  fi 76 (.load false 1 (.t 75)),
  fi 77 (.slice 13 (.t 76) (some (.c (.int .i64 1))) none none),
  fi 78 (.nilCheck (.t 72)),
  fi 79 (.fieldAddr 16 (.t 78)),
  st (.store 1 (.t 79) (.t 77))])
 (.reg [0, 1, 2, 3, 4, 5, 6] [fi 80 (.mv (.t 0)),
  fi 81 (.mv (.t 0)),
  fi 82 (.nilCheck (.t 81)),
  fi 83 (.fieldAddr 1 (.t 82)),
  fi 84 (.load false 1 (.t 83)),
  fi 85 (.load true 13 (.t 4)),
  ei 86 (.call 63 [(.t 80), (.t 84), (.t 85)])])))
 .ret))))
def l_node_Node_settle_1 : Cd := (.seq (.seq (.reg [] [fi 5 (.mv (.t 0)),
  fi 6 (.nilCheck (.t 5)),
  fi 7 (.fieldAddr 19 (.t 6)),
  fi 8 (.load false 1 (.t 7)),
  fi 9 (.bin .eql (.t 8) (.c (.int .i64 0)))])
 (.ite (.t 9)
 .skip
 (.exit 0)))
 (.blk 1 (.seq (.seq (.reg [] [fi 10 (.mv (.t 0)),
  fi 11 (.nilCheck (.t 10)),
  fi 12 (.fieldAddr 8 (.t 11)),
  fi 13 (.load false 1 (.t 12)),
  ei 14 (.call 60 [(.t 13)]),
  fi 15 (.len .sl (.t 14)),
  fi 16 (.mv (.c (.int .i64 0)))])
 (.blk 2 (.loop l_node_Node_settle_0)))
 (.blk 4 k_node_Node_settle_1))))
def s_node_Node_settle_0 : Cd := (.reg [] [fi 87 (.mv (.t 0)),
  fi 88 (.mv (.t 0)),
  fi 89 (.nilCheck (.t 87)),
  fi 90 (.fieldAddr 15 (.t 89)),
  st (.store 1 (.t 90) (.c (.sl [] 0 3 .nil))),
  fi 91 (.nilCheck (.t 88)),
  fi 92 (.fieldAddr 16 (.t 91)),
  st (.store 1 (.t 92) (.c (.sl [] 0 13 .nil)))])
def b_node_Node_settle : Cd := (.seq (.blk 0 (.loop l_node_Node_settle_1))
 s_node_Node_settle_0)
theorem k_node_Node_settle : chkFn Tryz.prog n_node_Node_settle ⟨b_node_Node_settle, [], 93⟩ = true := by kernel_rfl
abbrev n_node_Node_step : Nat := 63
def i_node_Node_step_0 : Cd := (.seq (.reg [] [fi 68 (.bin .eql (.t 18) (.c (.int .u8 10))),
  fi 67 (.mv (.t 68))])
 (.ite (.t 67)
 (.reg [] [fi 69 (.mv (.t 0)),
  fi 70 (.mv (.t 1)),
  fi 71 (.load true 13 (.t 5)),
  ei 72 (.call 112 [(.t 69), (.t 70), (.t 71)])])
 (.seq (.reg [] [fi 74 (.bin .eql (.t 18) (.c (.int .u8 12))),
  fi 73 (.mv (.t 74))])
 (.ite (.t 73)
 (.reg [] [fi 75 (.mv (.t 0)),
  fi 76 (.mv (.t 1)),
  fi 77 (.load true 13 (.t 5)),
  ei 78 (.call 113 [(.t 75), (.t 76), (.t 77)])])
 (.seq (.reg [] [fi 80 (.bin .eql (.t 18) (.c (.int .u8 11))),
  fi 79 (.mv (.t 80))])
 (.ite (.t 79)
 (.reg [] [fi 81 (.mv (.t 0)),
  fi 82 (.fieldAddr 4 (.t 5)),
  fi 83 (.load false 1 (.t 82)),
  fi 84 (.fieldAddr 7 (.t 5)),
  fi 85 (.load false 1 (.t 84)),
  fi 86 (.build [(.int .u64 0), (.int .i64 0), (.sl [] 0 3 .nil), (.bool false), (.str (mkS []))] [(0, 1, (.t 83)), (1, 1, (.t 85))]),
  ei 87 (.call 86 [(.t 81), (.t 86)])])
 (.seq (.reg [] [fi 89 (.bin .eql (.t 18) (.c (.int .u8 13))),
  fi 88 (.mv (.t 89))])
 (.ite (.t 88)
 (.reg [] [fi 90 (.mv (.t 0)),
  fi 91 (.load true 13 (.t 5)),
  ei 92 (.call 114 [(.t 90), (.t 91)])])
 (.seq (.seq (.reg [0, 1, 2, 3, 4, 5, 6, 7, 8, 9, 11, 12, 10, 12, 13, 14] [fi 19 (.mv (.t 6)),
  fi 20 (.nilCheck (.t 19)),
  fi 21 (.fieldAddr 2 (.t 20)),
  fi 22 (.load false 1 (.t 21)),
  fi 23 (.eq false .ptr (.t 22) (.c (.ptr none))),
  fi 24 (.mv (.t 23)),
  .run ⟨(some 25), (some (24, false)), .f (.mv (.t 6))⟩,
  .run ⟨(some 26), (some (24, false)), .f (.nilCheck (.t 25))⟩,
  .run ⟨(some 27), (some (24, false)), .f (.fieldAddr 2 (.t 26))⟩,
  .run ⟨(some 28), (some (24, false)), .f (.load false 1 (.t 27))⟩,
  .run ⟨(some 30), (some (24, false)), .f (.fieldAddr 5 (.t 5))⟩,
  .run ⟨(some 31), (some (24, false)), .f (.load false 1 (.t 30))⟩,
  .run ⟨(some 29), (some (24, false)), .e (.call 33 [(.t 28)])⟩,
  .chk 31 (some (24, false)) (.load false 1 (.t 30)),
  .run ⟨(some 32), (some (24, false)), .f (.bin .neq (.t 29) (.t 31))⟩,
  fi 33 (.pick (.t 24) (.c (.bool true)) (.t 32))])
 (.ite (.t 33)
 .ret
 .skip))
 (.reg [] [fi 34 (.mv (.t 0)),
  fi 35 (.mv (.t 1)),
  fi 36 (.load true 13 (.t 5)),
  ei 37 (.call 115 [(.t 34), (.t 35), (.t 36)])]))))))))))
def k_node_Node_step_0 : Cd := (.seq (.reg [] [fi 39 (.bin .eql (.t 18) (.c (.int .u8 2))),
  fi 38 (.mv (.t 39))])
 (.ite (.t 38)
 (.seq (.reg [] [fi 41 (.fieldAddr 11 (.t 5)),
  fi 42 (.load false 1 (.t 41)),
  ei 43 (.strBytes (.t 42)),
  ei 44 (.call 109 [(.t 43)]),
  fi 40 (.mv (.t 44)),
  fi 45 (.extract (.t 40) 0),
  fi 46 (.extract (.t 40) 1),
  ei 7 (.alloc [(.int .u8 0), (.int .i64 0), (.int .i64 0), (.int .u64 0)]),
  st (.store 4 (.t 7) (.t 45)),
  fi 8 (.mv (.t 46))])
 (.seq (.reg [] [fi 47 (.mv (.t 8)),
  fi 48 (.bin .eql (.t 47) (.c (.int .i64 0))),
  fi 49 (.mv (.t 48)),
  .run ⟨(some 50), (some (49, true)), .f (.mv (.t 0))⟩,
  .run ⟨(some 51), (some (49, true)), .f (.nilCheck (.t 50))⟩,
  .run ⟨(some 52), (some (49, true)), .f (.fieldAddr 8 (.t 51))⟩,
  .run ⟨(some 53), (some (49, true)), .f (.load false 1 (.t 52))⟩,
  .run ⟨(some 54), (some (49, true)), .e (.call 31 [(.t 53)])⟩,
  fi 55 (.pick (.t 49) (.t 54) (.c (.bool false)))])
 (.ite (.t 55)
 (.reg [] [fi 56 (.mv (.t 0)),
  fi 57 (.load true 4 (.t 7)),
  ei 58 (.call 80 [(.t 56), (.t 57)])])
 .skip)))
 (.seq (.seq (.reg [] [fi 60 (.bin .eql (.t 18) (.c (.int .u8 3))),
  fi 59 (.mv (.t 60))])
 (.ite (.t 59)
 .skip
 (.seq (.reg [] [fi 61 (.bin .eql (.t 18) (.c (.int .u8 4))),
  fi 59 (.mv (.t 61))])
 (.ite (.t 59)
 .skip
 (.reg [] [fi 62 (.bin .eql (.t 18) (.c (.int .u8 8))),
  fi 59 (.mv (.t 62))])))))
 (.ite (.t 59)
 (.reg [] [fi 63 (.mv (.t 0)),
  fi 64 (.mv (.t 1)),
  fi 65 (.load true 13 (.t 5)),
  ei 66 (.call 111 [(.t 63), (.t 64), (.t 65)])])
 i_node_Node_step_0))))
def b_node_Node_step : Cd := (.seq (.reg [] [ei 5 (.box (.t 2))])
 (.seq (.reg [0, 1, 2, 3, 4, 5, 6, 7, 8] [fi 9 (.mv (.t 0)),
  fi 10 (.nilCheck (.t 9)),
  fi 11 (.fieldAddr 12 (.t 10)),
  fi 12 (.load false 1 (.t 11)),
  fi 13 (.fieldAddr 3 (.t 5)),
  fi 14 (.load false 1 (.t 13)),
  fi 15 (.indexAddr 1 (.t 12) (.t 14)),
  fi 16 (.load false 1 (.t 15)),
  fi 6 (.mv (.t 16))])
 (.seq (.reg [] [fi 17 (.fieldAddr 0 (.t 5)),
  fi 18 (.load false 1 (.t 17))])
 (.blk 0 k_node_Node_step_0))))
theorem k_node_Node_step : chkFn Tryz.prog n_node_Node_step ⟨b_node_Node_step, [], 93⟩ = true := by kernel_rfl
abbrev n_node_Node_sure : Nat := 54
def l_node_Node_sure_0 : Cd := (.seq (.reg [] [fi 32 (.bin .lss (.t 31) (.t 30))])
 (.seq (.ite (.t 32)
 .skip
 (.exit 0))
 (.seq (.blk 1 (.seq (.reg [] [fi 33 (.indexAddr 3 (.t 29) (.t 31)),
  fi 34 (.load true 3 (.t 33)),
  ei 8 (.alloc [(.int .u64 0), (.int .i64 0), (.int .i64 0)]),
  st (.store 3 (.t 8) (.t 34))])
 (.seq (.reg [] [fi 35 (.fieldAddr 2 (.t 8)),
  fi 36 (.load false 1 (.t 35)),
  fi 37 (.mv (.t 5)),
  fi 38 (.bin .lss (.t 36) (.t 37))])
 (.ite (.t 38)
 (.reg [] [fi 39 (.mv (.t 0)),
  fi 40 (.fieldAddr 1 (.t 8)),
  fi 41 (.load false 1 (.t 40)),
  fi 42 (.fieldAddr 0 (.t 8)),
  fi 43 (.load false 1 (.t 42)),
  fi 44 (.build [(.int .u8 0), (.bool false), (.bool false), (.int .i64 0), (.int .u64 0), (.int .u64 0), (.int .i64 0), (.int .i64 0), (.int .i64 0), (.int .i64 0), (.str (mkS [])), (.str (mkS [])), (.sl [] 0 4 .nil)] [(0, 1, (.c (.int .u8 11))), (4, 1, (.t 43))]),
  ei 45 (.call 67 [(.t 39), (.t 41), (.t 44)])])
 (.reg [] [fi 46 (.mv (.t 6)),
  fi 47 (.load true 3 (.t 8)),
  ei 48 (.buildSlice 1 3 0 [(.int .u64 0), (.int .i64 0), (.int .i64 0)] [(0, 3, (.t 47))]),
  ei 49 (.append 3 24 false (.t 46) (.t 48)),
  fi 6 (.mv (.t 49))])))))
 (.reg [] [fi 50 (.bin .add (.t 31) (.c (.int .i64 1))),
  fi 31 (.mv (.t 50))]))))
def b_node_Node_sure : Cd := (.seq (.reg [] [fi 9 (.mv (.t 0)),
  fi 10 (.nilCheck (.t 9)),
  fi 11 (.fieldAddr 12 (.t 10)),
  fi 12 (.load false 1 (.t 11)),
  fi 13 (.mv (.t 1)),
  fi 14 (.indexAddr 1 (.t 12) (.t 13)),
  fi 15 (.load false 1 (.t 14)),
  fi 4 (.mv (.t 15))])
 (.seq (.reg [0, 1, 2, 3, 4, 5, 6, 7, 8, 3, 9, 10] [fi 16 (.mv (.t 4)),
  fi 17 (.nilCheck (.t 16)),
  fi 18 (.fieldAddr 2 (.t 17)),
  fi 19 (.load false 1 (.t 18)),
  fi 20 (.mv (.t 4)),
  fi 21 (.nilCheck (.t 20)),
  fi 22 (.fieldAddr 0 (.t 21)),
  fi 23 (.load false 1 (.t 22)),
  ei 24 (.call 82 [(.t 23)]),
  .chk 19 none (.load false 1 (.t 18)),
  ei 25 (.call 100 [(.t 19), (.t 24)]),
  fi 5 (.mv (.t 25))])
 (.seq (.reg [] [fi 6 (.mv (.c (.sl [] 0 3 .nil)))])
 (.seq (.seq (.reg [] [fi 26 (.mv (.t 4)),
  fi 27 (.nilCheck (.t 26)),
  fi 28 (.fieldAddr 3 (.t 27)),
  fi 29 (.load false 1 (.t 28)),
  fi 30 (.len .sl (.t 29)),
  fi 31 (.mv (.c (.int .i64 0)))])
 (.blk 0 (.loop l_node_Node_sure_0)))
 (.reg [] [fi 51 (.mv (.t 4)),
  fi 52 (.mv (.t 6)),
  fi 53 (.nilCheck (.t 51)),
  fi 54 (.fieldAddr 3 (.t 53)),
  st (.store 1 (.t 54) (.t 52))])))))
theorem k_node_Node_sure : chkFn Tryz.prog n_node_Node_sure ⟨b_node_Node_sure, [], 55⟩ = true := by kernel_rfl
abbrev n_node_Node_tell : Nat := 59
def l_node_Node_tell_0 : Cd := (.seq (.seq (.reg [] [fi 60 (.mv (.t 10)),
  fi 61 (.mv (.t 9)),
  fi 62 (.len .sl (.t 61)),
  fi 63 (.mv (.t 7)),
  fi 64 (.bin .add (.t 63) (.c (.int .i64 8))),
  fi 65 (.minmax false [(.t 62), (.t 64)]),
  fi 66 (.bin .lss (.t 60) (.t 65))])
 (.ite (.t 66)
 .skip
 (.exit 2)))
 (.seq (.blk 3 (.reg [0, 1, 2, 3, 4, 5, 6, 8, 9, 10, 11, 12, 13, 7, 14, 15] [fi 69 (.mv (.t 0)),
  fi 70 (.mv (.t 6)),
  fi 71 (.mv (.t 1)),
  fi 72 (.mv (.t 4)),
  fi 73 (.nilCheck (.t 72)),
  fi 74 (.fieldAddr 2 (.t 73)),
  fi 75 (.load false 1 (.t 74)),
  fi 77 (.mv (.t 10)),
  fi 78 (.mv (.t 9)),
  fi 79 (.mv (.t 10)),
  fi 80 (.mv (.t 10)),
  fi 81 (.bin .add (.t 80) (.c (.int .i64 1))),
  fi 82 (.slice 4 (.t 78) (some (.t 79)) (some (.t 81)) none),
  ei 76 (.call 33 [(.t 75)]),
  fi 83 (.build [(.int .u8 0), (.bool false), (.bool false), (.int .i64 0), (.int .u64 0), (.int .u64 0), (.int .i64 0), (.int .i64 0), (.int .i64 0), (.int .i64 0), (.str (mkS [])), (.str (mkS [])), (.sl [] 0 4 .nil)] [(0, 1, (.c (.int .u8 4))), (3, 1, (.t 71)), (5, 1, (.t 76)), (6, 1, (.t 77)), (12, 1, (.t 82))]),
  ei 84 (.call 67 [(.t 69), (.t 70), (.t 83)])]))
 (.reg [] [fi 67 (.mv (.t 10)),
  fi 68 (.bin .add (.t 67) (.c (.int .i64 1))),
  fi 10 (.mv (.t 68))])))
def k_node_Node_tell_0 : Cd := (.seq (.reg [] [fi 26 (.indexAddr 1 (.t 22) (.t 24)),
  fi 27 (.load false 1 (.t 26)),
  fi 6 (.mv (.t 27))])
 (.seq (.reg [] [fi 29 (.mv (.t 4)),
  fi 30 (.nilCheck (.t 29)),
  fi 31 (.fieldAddr 2 (.t 30)),
  fi 32 (.load false 1 (.t 31)),
  fi 33 (.mv (.t 6)),
  ei 34 (.call 107 [(.t 32), (.t 33)]),
  fi 28 (.mv (.t 34)),
  fi 35 (.extract (.t 28) 0),
  fi 36 (.extract (.t 28) 1),
  fi 7 (.mv (.t 35)),
  fi 8 (.mv (.t 36))])
 (.seq (.seq (.reg [] [fi 37 (.mv (.t 8)),
  fi 38 (.un .not (.t 37))])
 (.ite (.t 38)
 (.seq (.reg [0, 1, 2, 3, 4, 5, 6, 8, 9, 10, 11, 7, 11, 12, 13, 14] [fi 39 (.mv (.t 0)),
  fi 40 (.mv (.t 6)),
  fi 41 (.mv (.t 1)),
  fi 42 (.mv (.t 4)),
  fi 43 (.nilCheck (.t 42)),
  fi 44 (.fieldAddr 2 (.t 43)),
  fi 45 (.load false 1 (.t 44)),
  fi 47 (.mv (.t 4)),
  fi 48 (.nilCheck (.t 47)),
  fi 49 (.fieldAddr 0 (.t 48)),
  fi 50 (.load false 1 (.t 49)),
  ei 46 (.call 33 [(.t 45)]),
  .chk 50 none (.load false 1 (.t 49)),
  ei 51 (.call 32 [(.t 50)]),
  fi 52 (.build [(.int .u8 0), (.bool false), (.bool false), (.int .i64 0), (.int .u64 0), (.int .u64 0), (.int .i64 0), (.int .i64 0), (.int .i64 0), (.int .i64 0), (.str (mkS [])), (.str (mkS [])), (.sl [] 0 4 .nil)] [(0, 1, (.c (.int .u8 3))), (3, 1, (.t 41)), (5, 1, (.t 46)), (12, 1, (.t 51))]),
  ei 53 (.call 67 [(.t 39), (.t 40), (.t 52)])])
 (.exit 1))
 .skip))
 (.seq (.reg [] [fi 54 (.mv (.t 4)),
  fi 55 (.nilCheck (.t 54)),
  fi 56 (.fieldAddr 0 (.t 55)),
  fi 57 (.load false 1 (.t 56)),
  ei 58 (.call 32 [(.t 57)]),
  fi 9 (.mv (.t 58))])
 (.seq (.reg [] [fi 59 (.mv (.t 7)),
  fi 10 (.mv (.t 59))])
 (.blk 2 (.loop l_node_Node_tell_0)))))))
def l_node_Node_tell_1 : Cd := (.seq (.reg [] [fi 25 (.bin .lss (.t 24) (.t 23))])
 (.seq (.ite (.t 25)
 .skip
 (.exit 0))
 (.seq (.blk 1 k_node_Node_tell_0)
 (.reg [] [fi 85 (.bin .add (.t 24) (.c (.int .i64 1))),
  fi 24 (.mv (.t 85))]))))
def b_node_Node_tell : Cd := (.seq (.reg [] [fi 11 (.mv (.t 0)),
  fi 12 (.nilCheck (.t 11)),
  fi 13 (.fieldAddr 12 (.t 12)),
  fi 14 (.load false 1 (.t 13)),
  fi 15 (.mv (.t 1)),
  fi 16 (.indexAddr 1 (.t 14) (.t 15)),
  fi 17 (.load false 1 (.t 16)),
  fi 4 (.mv (.t 17))])
 (.seq (.reg [] [fi 18 (.mv (.t 4)),
  fi 19 (.nilCheck (.t 18)),
  fi 20 (.fieldAddr 2 (.t 19)),
  fi 21 (.load false 1 (.t 20)),
  ei 22 (.call 106 [(.t 21)]),
  fi 23 (.len .sl (.t 22)),
  fi 24 (.mv (.c (.int .i64 0)))])
 (.blk 0 (.loop l_node_Node_tell_1))))
theorem k_node_Node_tell : chkFn Tryz.prog n_node_Node_tell ⟨b_node_Node_tell, [], 86⟩ = true := by kernel_rfl
abbrev n_node_Node_tickShard : Nat := 41
def l_node_Node_tickShard_0 : Cd := (.seq (.reg [] [fi 73 (.bin .lss (.t 72) (.t 71))])
 (.seq (.ite (.t 73)
 .skip
 (.exit 0))
 (.seq (.blk 1 (.seq (.reg [] [fi 74 (.indexAddr 1 (.t 70) (.t 72)),
  fi 75 (.load false 1 (.t 74)),
  fi 7 (.mv (.t 75))])
 (.reg [] [fi 76 (.mv (.t 0)),
  fi 77 (.mv (.t 1)),
  fi 78 (.mv (.t 7)),
  fi 79 (.fieldAddr 0 (.t 5)),
  fi 80 (.load false 1 (.t 79)),
  fi 81 (.build [(.int .u8 0), (.int .i64 0), (.int .i64 0), (.int .u64 0)] [(0, 1, (.c (.int .u8 2))), (1, 1, (.t 77)), (2, 1, (.t 78)), (3, 1, (.t 80))]),
  ei 82 (.call 80 [(.t 76), (.t 81)])])))
 (.reg [] [fi 83 (.bin .add (.t 72) (.c (.int .i64 1))),
  fi 72 (.mv (.t 83))]))))
def l_node_Node_tickShard_1 : Cd := (.seq (.reg [] [fi 90 (.bin .lss (.t 89) (.t 88))])
 (.seq (.ite (.t 90)
 .skip
 (.exit 2))
 (.seq (.blk 3 (.seq (.reg [] [fi 91 (.indexAddr 16 (.t 87) (.t 89)),
  fi 92 (.load true 16 (.t 91)),
  ei 9 (.alloc [(.int .u8 0), (.bool false), (.bool false), (.int .i64 0), (.int .u64 0), (.int .u64 0), (.int .i64 0), (.int .i64 0), (.int .i64 0), (.int .i64 0), (.str (mkS [])), (.str (mkS [])), (.sl [] 0 4 .nil), (.int .i64 0), (.int .i64 0), (.sl [] 0 1 .nil)]),
  st (.store 16 (.t 9) (.t 92))])
 (.reg [] [fi 93 (.mv (.t 0)),
  fi 94 (.mv (.t 1)),
  fi 95 (.load true 16 (.t 9)),
  ei 96 (.call 83 [(.t 93), (.t 94), (.t 95)])])))
 (.reg [] [fi 97 (.bin .add (.t 89) (.c (.int .i64 1))),
  fi 89 (.mv (.t 97))]))))
def b_node_Node_tickShard : Cd := (.seq (.reg [0, 1, 2, 3, 4, 5, 6, 7, 8, 9, 10, 11, 12, 13, 14, 15, 3, 6, 11, 14, 16, 17] [fi 10 (.mv (.t 0)),
  fi 11 (.nilCheck (.t 10)),
  fi 12 (.fieldAddr 12 (.t 11)),
  fi 13 (.load false 1 (.t 12)),
  fi 14 (.mv (.t 1)),
  fi 15 (.indexAddr 1 (.t 13) (.t 14)),
  fi 16 (.load false 1 (.t 15)),
  fi 17 (.mv (.t 0)),
  fi 18 (.nilCheck (.t 17)),
  fi 19 (.fieldAddr 9 (.t 18)),
  fi 20 (.fieldAddr 1 (.t 19)),
  fi 21 (.load false 1 (.t 20)),
  fi 22 (.mv (.t 1)),
  fi 23 (.indexAddr 4 (.t 21) (.t 22)),
  fi 24 (.load true 4 (.t 23)),
  ei 5 (.alloc [(.int .u64 0), (.int .u64 0), (.int .i64 0), (.sl [] 0 1 .nil)]),
  .chk 13 none (.load false 1 (.t 12)),
  .chk 16 none (.load false 1 (.t 15)),
  .chk 21 none (.load false 1 (.t 20)),
  .chk 24 none (.load true 4 (.t 23)),
  fi 4 (.mv (.t 16)),
  st (.store 4 (.t 5) (.t 24))])
 (.seq (.seq (.reg [] [fi 25 (.mv (.t 4)),
  fi 26 (.nilCheck (.t 25)),
  fi 27 (.fieldAddr 2 (.t 26)),
  fi 28 (.load false 1 (.t 27)),
  fi 29 (.eq false .ptr (.t 28) (.c (.ptr none)))])
 (.ite (.t 29)
 (.seq (.seq (.reg [0, 1, 2, 3, 4, 5, 6, 7, 8, 9, 10, 11, 12, 13, 14, 9, 15, 16, 17] [fi 30 (.fieldAddr 2 (.t 5)),
  fi 31 (.load false 1 (.t 30)),
  fi 32 (.mv (.t 0)),
  fi 33 (.nilCheck (.t 32)),
  fi 34 (.fieldAddr 1 (.t 33)),
  fi 35 (.load false 1 (.t 34)),
  fi 36 (.bin .eql (.t 31) (.t 35)),
  fi 37 (.mv (.t 36)),
  .run ⟨(some 38), (some (37, true)), .f (.fieldAddr 1 (.t 5))⟩,
  .run ⟨(some 39), (some (37, true)), .f (.load false 1 (.t 38))⟩,
  .run ⟨(some 40), (some (37, true)), .f (.mv (.t 4))⟩,
  .run ⟨(some 41), (some (37, true)), .f (.nilCheck (.t 40))⟩,
  .run ⟨(some 42), (some (37, true)), .f (.fieldAddr 0 (.t 41))⟩,
  .run ⟨(some 43), (some (37, true)), .f (.load false 1 (.t 42))⟩,
  .run ⟨(some 44), (some (37, true)), .e (.call 56 [(.t 43)])⟩,
  .chk 39 (some (37, true)) (.load false 1 (.t 38)),
  .run ⟨(some 45), (some (37, true)), .f (.field false 1 1 (.t 44))⟩,
  .run ⟨(some 46), (some (37, true)), .f (.bin .leq (.t 39) (.t 45))⟩,
  fi 47 (.pick (.t 37) (.t 46) (.c (.bool false)))])
 (.ite (.t 47)
 (.reg [0, 1, 2, 3, 4, 5, 6, 7, 8, 9] [fi 48 (.mv (.t 0)),
  fi 49 (.mv (.t 1)),
  fi 50 (.mv (.t 0)),
  fi 51 (.nilCheck (.t 50)),
  fi 52 (.fieldAddr 1 (.t 51)),
  fi 53 (.load false 1 (.t 52)),
  fi 54 (.fieldAddr 0 (.t 5)),
  fi 55 (.load false 1 (.t 54)),
  fi 56 (.build [(.int .u8 0), (.int .i64 0), (.int .i64 0), (.int .u64 0)] [(0, 1, (.c (.int .u8 1))), (1, 1, (.t 49)), (2, 1, (.t 53)), (3, 1, (.t 55))]),
  ei 57 (.call 80 [(.t 48), (.t 56)])])
 .skip))
 .ret)
 .skip))
 (.seq (.reg [] [fi 58 (.mv (.t 0)),
  fi 59 (.mv (.t 1)),
  ei 60 (.call 59 [(.t 58), (.t 59)])])
 (.seq (.seq (.reg [0, 1, 2, 3, 4, 5, 6, 7, 11, 8, 3, 9, 10] [fi 61 (.mv (.t 4)),
  fi 62 (.nilCheck (.t 61)),
  fi 63 (.fieldAddr 2 (.t 62)),
  fi 64 (.load false 1 (.t 63)),
  fi 65 (.mv (.t 4)),
  fi 66 (.nilCheck (.t 65)),
  fi 67 (.fieldAddr 0 (.t 66)),
  fi 68 (.load false 1 (.t 67)),
  fi 72 (.mv (.c (.int .i64 0))),
  ei 69 (.call 82 [(.t 68)]),
  .chk 64 none (.load false 1 (.t 63)),
  ei 70 (.call 81 [(.t 64), (.t 69)]),
  fi 71 (.len .sl (.t 70))])
 (.blk 0 (.loop l_node_Node_tickShard_0)))
 (.seq (.reg [] [fi 84 (.mv (.t 4)),
  fi 85 (.nilCheck (.t 84)),
  fi 86 (.fieldAddr 4 (.t 85)),
  fi 87 (.load false 1 (.t 86)),
  fi 88 (.len .sl (.t 87)),
  fi 89 (.mv (.c (.int .i64 0)))])
 (.blk 2 (.loop l_node_Node_tickShard_1)))))))
theorem k_node_Node_tickShard : chkFn Tryz.prog n_node_Node_tickShard ⟨b_node_Node_tickShard, [], 98⟩ = true := by kernel_rfl
abbrev n_node_Node_tickWish : Nat := 43
def k_node_Node_tickWish_0 : Cd := (.seq (.reg [] [fi 16 (.mv (.t 2)),
  fi 17 (.nilCheck (.t 16)),
  fi 18 (.fieldAddr 0 (.t 17)),
  fi 19 (.load false 1 (.t 18)),
  fi 20 (.bin .gtr (.t 19) (.c (.int .i64 60))),
  fi 21 (.mv (.t 20)),
  .run ⟨(some 22), (some (21, true)), .f (.mv (.t 2))⟩,
  .run ⟨(some 23), (some (21, true)), .f (.nilCheck (.t 22))⟩,
  .run ⟨(some 24), (some (21, true)), .f (.fieldAddr 1 (.t 23))⟩,
  .run ⟨(some 25), (some (21, true)), .f (.load false 1 (.t 24))⟩,
  fi 26 (.pick (.t 21) (.t 25) (.c (.bool false))),
  fi 15 (.mv (.t 26))])
 (.ite (.t 15)
 (.reg [] [fi 27 (.mv (.t 0)),
  fi 28 (.mv (.t 1)),
  fi 29 (.build [(.int .u64 0), (.int .i64 0), (.sl [] 0 3 .nil), (.bool false), (.str (mkS []))] [(0, 1, (.t 28)), (1, 1, (.c (.int .i64 12)))]),
  ei 30 (.call 86 [(.t 27), (.t 29)])])
 (.seq (.reg [] [fi 32 (.mv (.t 2)),
  fi 33 (.nilCheck (.t 32)),
  fi 34 (.fieldAddr 0 (.t 33)),
  fi 35 (.load false 1 (.t 34)),
  fi 36 (.bin .gtr (.t 35) (.c (.int .i64 60))),
  fi 31 (.mv (.t 36))])
 (.ite (.t 31)
 (.reg [] [fi 37 (.mv (.t 0)),
  fi 38 (.mv (.t 1)),
  fi 39 (.mv (.t 2)),
  ei 40 (.call 87 [(.t 37), (.t 38), (.t 39), (.c (.bool false))])])
 (.seq (.reg [] [fi 42 (.mv (.t 2)),
  fi 43 (.nilCheck (.t 42)),
  fi 44 (.fieldAddr 0 (.t 43)),
  fi 45 (.load false 1 (.t 44)),
  fi 46 (.bin .rem (.t 45) (.c (.int .i64 4))),
  fi 47 (.bin .eql (.t 46) (.c (.int .i64 0))),
  fi 41 (.mv (.t 47))])
 (.ite (.t 41)
 (.reg [] [fi 48 (.mv (.t 0)),
  fi 49 (.mv (.t 1)),
  fi 50 (.mv (.t 2)),
  ei 51 (.call 36 [(.t 48), (.t 49), (.t 50)])])
 .skip))))))
def b_node_Node_tickWish : Cd := (.seq (.seq (.reg [] [fi 6 (.mv (.t 2)),
  fi 7 (.eq false .ptr (.t 6) (.c (.ptr none)))])
 (.ite (.t 7)
 .ret
 .skip))
 (.seq (.reg [] [fi 8 (.mv (.t 2)),
  fi 9 (.nilCheck (.t 8)),
  fi 10 (.fieldAddr 0 (.t 9)),
  fi 11 (.load false 1 (.t 10)),
  fi 12 (.bin .add (.t 11) (.c (.int .i64 1))),
  fi 13 (.nilCheck (.t 8)),
  fi 14 (.fieldAddr 0 (.t 13)),
  st (.store 1 (.t 14) (.t 12))])
 (.blk 0 k_node_Node_tickWish_0)))
theorem k_node_Node_tickWish : chkFn Tryz.prog n_node_Node_tickWish ⟨b_node_Node_tickWish, [], 52⟩ = true := by kernel_rfl
abbrev n_node_Node_write : Nat := 112
def i_node_Node_write_0 : Cd := (.seq (.reg [] [fi 69 (.mv (.t 6)),
  fi 70 (.nilCheck (.t 69)),
  fi 71 (.fieldAddr 0 (.t 70)),
  fi 72 (.load false 1 (.t 71)),
  ei 73 (.call 82 [(.t 72)]),
  fi 9 (.mv (.t 73))])
 (.seq (.seq (.reg [] [fi 74 (.mv (.t 9)),
  fi 75 (.bin .geq (.t 74) (.c (.int .i64 4096)))])
 (.ite (.t 75)
 (.seq (.reg [] [fi 76 (.fieldAddr 7 (.t 8)),
  st (.store 1 (.t 76) (.c (.int .i64 11)))])
 (.seq (.reg [] [fi 77 (.mv (.t 0)),
  fi 78 (.mv (.t 1)),
  fi 79 (.load true 13 (.t 8)),
  ei 80 (.call 67 [(.t 77), (.t 78), (.t 79)])])
 .ret))
 .skip))
 (.seq (.seq (.reg [0, 1, 2, 3, 4, 5, 6, 7, 9, 8, 3, 9, 10, 11, 12] [fi 81 (.mv (.t 6)),
  fi 82 (.nilCheck (.t 81)),
  fi 83 (.fieldAddr 0 (.t 82)),
  fi 84 (.load false 1 (.t 83)),
  fi 85 (.mv (.t 6)),
  fi 86 (.nilCheck (.t 85)),
  fi 87 (.fieldAddr 2 (.t 86)),
  fi 88 (.load false 1 (.t 87)),
  fi 90 (.load true 3 (.t 7)),
  ei 89 (.call 33 [(.t 88)]),
  .chk 84 none (.load false 1 (.t 83)),
  .chk 90 none (.load true 3 (.t 7)),
  fi 91 (.build [(.int .u64 0), (.str (mkS [])), (.int .i64 0), (.str (mkS []))] [(0, 1, (.t 89)), (1, 3, (.t 90))]),
  ei 92 (.call 180 [(.t 84), (.t 91)]),
  fi 11 (.mv (.t 92))])
 (.seq (.reg [] [fi 93 (.mv (.t 0)),
  fi 94 (.mv (.t 11)),
  ei 95 (.call 39 [(.t 93), (.t 94)]),
  fi 96 (.un .not (.t 95))])
 (.ite (.t 96)
 (.seq (.reg [] [fi 97 (.mv (.t 11)),
  fi 98 (.fieldAddr 7 (.t 8)),
  st (.store 1 (.t 98) (.t 97))])
 (.seq (.seq (.reg [] [fi 99 (.mv (.t 11)),
  fi 100 (.bin .eql (.t 99) (.c (.int .i64 11)))])
 (.ite (.t 100)
 (.reg [] [fi 101 (.mv (.t 0)),
  fi 102 (.mv (.t 1)),
  fi 103 (.load true 13 (.t 8)),
  ei 104 (.call 67 [(.t 101), (.t 102), (.t 103)])])
 .skip))
 .ret))
 .skip)))
 (.seq (.reg [0, 1, 2, 3, 4, 5] [fi 105 (.mv (.t 6)),
  fi 106 (.nilCheck (.t 105)),
  fi 107 (.fieldAddr 1 (.t 106)),
  fi 108 (.load false 1 (.t 107)),
  fi 109 (.load true 3 (.t 7)),
  ei 110 (.call 51 [(.t 108), (.t 109)])])
 (.reg [] [fi 111 (.mv (.t 0)),
  fi 112 (.fieldAddr 3 (.t 5)),
  fi 113 (.load false 1 (.t 112)),
  ei 114 (.call 59 [(.t 111), (.t 113)])])))))
def b_node_Node_write : Cd := (.seq (.reg [] [ei 5 (.box (.t 2))])
 (.seq (.reg [0, 1, 2, 3, 4, 5, 6, 7, 8] [fi 12 (.mv (.t 0)),
  fi 13 (.nilCheck (.t 12)),
  fi 14 (.fieldAddr 12 (.t 13)),
  fi 15 (.load false 1 (.t 14)),
  fi 16 (.fieldAddr 3 (.t 5)),
  fi 17 (.load false 1 (.t 16)),
  fi 18 (.indexAddr 1 (.t 15) (.t 17)),
  fi 19 (.load false 1 (.t 18)),
  fi 6 (.mv (.t 19))])
 (.seq (.seq (.reg [] [fi 20 (.mv (.t 6)),
  fi 21 (.nilCheck (.t 20)),
  fi 22 (.fieldAddr 2 (.t 21)),
  fi 23 (.load false 1 (.t 22)),
  fi 24 (.eq false .ptr (.t 23) (.c (.ptr none))),
  fi 25 (.mv (.t 24)),
  .run ⟨(some 26), (some (25, false)), .f (.fieldAddr 12 (.t 5))⟩,
  .run ⟨(some 27), (some (25, false)), .f (.load false 1 (.t 26))⟩,
  .run ⟨(some 28), (some (25, false)), .f (.len .sl (.t 27))⟩,
  .run ⟨(some 29), (some (25, false)), .f (.bin .neq (.t 28) (.c (.int .i64 1)))⟩,
  fi 30 (.pick (.t 25) (.c (.bool true)) (.t 29))])
 (.ite (.t 30)
 .ret
 .skip))
 (.seq (.reg [] [fi 31 (.fieldAddr 12 (.t 5)),
  fi 32 (.load false 1 (.t 31)),
  fi 33 (.indexAddr 4 (.t 32) (.c (.int .i64 0))),
  fi 34 (.fieldAddr 1 (.t 33)),
  fi 35 (.load true 3 (.t 34)),
  ei 7 (.alloc [(.str (mkS [])), (.int .i64 0), (.str (mkS []))]),
  st (.store 3 (.t 7) (.t 35))])
 (.seq (.reg [] [fi 36 (.fieldAddr 4 (.t 5)),
  fi 37 (.load false 1 (.t 36)),
  fi 38 (.fieldAddr 3 (.t 5)),
  fi 39 (.load false 1 (.t 38)),
  fi 40 (.build [(.int .u8 0), (.bool false), (.bool false), (.int .i64 0), (.int .u64 0), (.int .u64 0), (.int .i64 0), (.int .i64 0), (.int .i64 0), (.int .i64 0), (.str (mkS [])), (.str (mkS [])), (.sl [] 0 4 .nil)] [(0, 1, (.c (.int .u8 11))), (4, 1, (.t 37)), (3, 1, (.t 39))]),
  ei 8 (.alloc [(.int .u8 0), (.bool false), (.bool false), (.int .i64 0), (.int .u64 0), (.int .u64 0), (.int .i64 0), (.int .i64 0), (.int .i64 0), (.int .i64 0), (.str (mkS [])), (.str (mkS [])), (.sl [] 0 4 .nil)]),
  st (.store 13 (.t 8) (.t 40))])
 (.seq (.reg [0, 1, 2, 3, 4, 5, 6, 7, 8, 9, 10, 11] [fi 42 (.mv (.t 6)),
  fi 43 (.nilCheck (.t 42)),
  fi 44 (.fieldAddr 1 (.t 43)),
  fi 45 (.load false 1 (.t 44)),
  fi 46 (.fieldAddr 0 (.t 7)),
  fi 47 (.load false 1 (.t 46)),
  ei 48 (.call 181 [(.t 45), (.t 47)]),
  fi 41 (.mv (.t 48)),
  fi 49 (.extract (.t 41) 0),
  fi 50 (.extract (.t 41) 1),
  fi 9 (.mv (.t 49)),
  fi 10 (.mv (.t 50))])
 (.seq (.seq (.reg [] [fi 51 (.mv (.t 10)),
  fi 52 (.bin .eql (.t 51) (.c (.int .i64 0)))])
 (.ite (.t 52)
 (.seq (.reg [0, 1, 2, 3, 5, 9, 4, 9, 6, 7, 8, 10] [fi 53 (.mv (.t 6)),
  fi 54 (.nilCheck (.t 53)),
  fi 55 (.fieldAddr 0 (.t 54)),
  fi 56 (.load false 1 (.t 55)),
  fi 58 (.mv (.t 9)),
  fi 62 (.load true 3 (.t 7)),
  ei 57 (.call 32 [(.t 56)]),
  .chk 62 none (.load true 3 (.t 7)),
  fi 59 (.indexAddr 4 (.t 57) (.t 58)),
  fi 60 (.fieldAddr 1 (.t 59)),
  fi 61 (.load true 3 (.t 60)),
  fi 63 (.eqA true [.str, .int, .str] (.t 61) (.t 62))])
 (.ite (.t 63)
 (.seq (.reg [] [fi 64 (.fieldAddr 7 (.t 8)),
  st (.store 1 (.t 64) (.c (.int .i64 14)))])
 (.seq (.reg [] [fi 65 (.mv (.t 0)),
  fi 66 (.mv (.t 1)),
  fi 67 (.load true 13 (.t 8)),
  ei 68 (.call 67 [(.t 65), (.t 66), (.t 67)])])
 .ret))
 .skip))
 i_node_Node_write_0))
 (.seq (.seq (.reg [] [fi 115 (.mv (.t 6)),
  fi 116 (.nilCheck (.t 115)),
  fi 117 (.fieldAddr 3 (.t 116)),
  fi 118 (.load false 1 (.t 117)),
  fi 119 (.mkFunc 183 [] [(.t 5)]),
  ei 120 (.call 182 [(.t 118), (.t 119)]),
  fi 121 (.un .not (.t 120))])
 (.ite (.t 121)
 (.reg [0, 1, 2, 3, 4, 5, 6, 7, 8, 9, 10, 4, 11, 12, 13, 14] [fi 122 (.mv (.t 6)),
  fi 123 (.mv (.t 6)),
  fi 124 (.nilCheck (.t 123)),
  fi 125 (.fieldAddr 3 (.t 124)),
  fi 126 (.load false 1 (.t 125)),
  fi 127 (.fieldAddr 4 (.t 5)),
  fi 128 (.load false 1 (.t 127)),
  fi 129 (.mv (.t 1)),
  fi 130 (.mv (.t 9)),
  fi 131 (.build [(.int .u64 0), (.int .i64 0), (.int .i64 0)] [(0, 1, (.t 128)), (1, 1, (.t 129)), (2, 1, (.t 130))]),
  ei 132 (.buildSlice 1 3 0 [(.int .u64 0), (.int .i64 0), (.int .i64 0)] [(0, 3, (.t 131))]),
  .chk 126 none (.load false 1 (.t 125)),
  ei 133 (.append 3 24 false (.t 126) (.t 132)),
  fi 134 (.nilCheck (.t 122)),
  fi 135 (.fieldAddr 3 (.t 134)),
  st (.store 1 (.t 135) (.t 133))])
 .skip))
 (.reg [] [fi 136 (.mv (.t 0)),
  fi 137 (.fieldAddr 3 (.t 5)),
  fi 138 (.load false 1 (.t 137)),
  ei 139 (.call 54 [(.t 136), (.t 138)])])))))))))
theorem k_node_Node_write : chkFn Tryz.prog n_node_Node_write ⟨b_node_Node_write, [], 140⟩ = true := by kernel_rfl
abbrev n_node_Open : Nat := 7
def k_node_Open_0 : Cd := (.seq (.reg [] [fi 67 (.mv (.t 65)),
  fi 14 (.mv (.t 67))])
 (.seq (.reg [] [fi 69 (.mv (.t 0)),
  fi 70 (.mv (.t 14)),
  ei 71 (.call 26 [(.t 69), (.t 70)]),
  fi 68 (.mv (.t 71)),
  fi 72 (.extract (.t 68) 0),
  fi 73 (.extract (.t 68) 1),
  fi 15 (.mv (.t 72)),
  fi 16 (.mv (.t 73))])
 (.seq (.seq (.reg [] [fi 74 (.mv (.t 16)),
  fi 75 (.bin .neq (.t 74) (.c (.int .i64 0)))])
 (.ite (.t 75)
 (.seq (.reg [] [fi 76 (.mv (.t 16)),
  fi 6 (.mv (.c (.ptr none))),
  fi 7 (.mv (.t 76))])
 .ret)
 .skip))
 (.seq (.reg [] [fi 77 (.mv (.t 15)),
  fi 78 (.build [(.ptr none), (.ptr none), (.ptr none), (.sl [] 0 3 .nil), (.sl [] 0 16 .nil), (.sl [] 0 1 .nil)] [(0, 1, (.t 77))]),
  ei 79 (.box (.t 78)),
  fi 17 (.mv (.t 79))])
 (.seq (.reg [] [fi 80 (.mv (.t 13)),
  fi 81 (.mv (.t 17)),
  ei 82 (.call 27 [(.t 80), (.t 81)])])
 (.reg [] [fi 83 (.mv (.t 13)),
  fi 84 (.mv (.t 13)),
  fi 85 (.nilCheck (.t 84)),
  fi 86 (.fieldAddr 12 (.t 85)),
  fi 87 (.load false 1 (.t 86)),
  fi 88 (.mv (.t 17)),
  ei 89 (.buildSlice 1 1 0 [(.ptr none)] [(0, 1, (.t 88))]),
  ei 90 (.append 1 8 false (.t 87) (.t 89)),
  fi 91 (.nilCheck (.t 83)),
  fi 92 (.fieldAddr 12 (.t 91)),
  st (.store 1 (.t 92) (.t 90))]))))))
def l_node_Open_0 : Cd := (.seq (.reg [] [fi 66 (.bin .lss (.t 65) (.t 64))])
 (.seq (.ite (.t 66)
 .skip
 (.exit 0))
 (.seq (.blk 1 k_node_Open_0)
 (.reg [] [fi 93 (.bin .add (.t 65) (.c (.int .i64 1))),
  fi 65 (.mv (.t 93))]))))
def l_node_Open_1 : Cd := (.seq (.reg [] [fi 100 (.bin .lss (.t 99) (.t 98))])
 (.seq (.ite (.t 100)
 .skip
 (.exit 2))
 (.seq (.blk 3 (.seq (.reg [] [fi 101 (.mv (.t 99)),
  fi 18 (.mv (.t 101))])
 (.reg [] [fi 102 (.mv (.t 13)),
  fi 103 (.mv (.t 18)),
  ei 104 (.call 28 [(.t 102), (.t 103)])])))
 (.reg [] [fi 105 (.bin .add (.t 99) (.c (.int .i64 1))),
  fi 99 (.mv (.t 105))]))))
def s_node_Open_0 : Cd := (.seq (.reg [] [fi 106 (.mv (.t 13)),
  ei 107 (.call 29 [(.t 106)])])
 (.seq (.reg [0, 1, 2, 3, 4, 5, 6] [fi 108 (.mv (.t 13)),
  fi 109 (.mv (.t 13)),
  fi 110 (.nilCheck (.t 109)),
  fi 111 (.fieldAddr 19 (.t 110)),
  fi 112 (.load false 1 (.t 111)),
  fi 6 (.mv (.t 108)),
  fi 7 (.mv (.t 112))])
 .ret))
def b_node_Open : Cd := (.seq (.reg [] [ei 5 (.box (.t 2)),
  fi 6 (.mv (.c (.ptr none))),
  fi 7 (.mv (.c (.int .i64 0)))])
 (.seq (.reg [] [fi 20 (.fieldAddr 0 (.t 5)),
  fi 21 (.load false 1 (.t 20)),
  fi 22 (.fieldAddr 1 (.t 5)),
  fi 23 (.load false 1 (.t 22)),
  fi 24 (.fieldAddr 2 (.t 5)),
  fi 25 (.load false 1 (.t 24)),
  ei 26 (.call 23 [(.t 21), (.t 23), (.t 25)]),
  fi 19 (.mv (.t 26)),
  fi 27 (.extract (.t 19) 0),
  fi 28 (.extract (.t 19) 1),
  ei 8 (.alloc [(.int .i64 0), (.sl [] 0 4 .nil)]),
  st (.store 2 (.t 8) (.t 27)),
  fi 9 (.mv (.t 28))])
 (.seq (.seq (.reg [] [fi 29 (.mv (.t 9)),
  fi 30 (.bin .neq (.t 29) (.c (.int .i64 0)))])
 (.ite (.t 30)
 (.seq (.reg [] [fi 31 (.mv (.t 9)),
  fi 6 (.mv (.c (.ptr none))),
  fi 7 (.mv (.t 31))])
 .ret)
 .skip))
 (.seq (.seq (.reg [] [fi 33 (.fieldAddr 3 (.t 5)),
  fi 34 (.load false 1 (.t 33)),
  fi 35 (.fieldAddr 4 (.t 5)),
  fi 36 (.load false 1 (.t 35)),
  ei 37 (.call 24 [(.t 34), (.t 36)]),
  fi 32 (.mv (.t 37)),
  fi 38 (.extract (.t 32) 0),
  fi 39 (.extract (.t 32) 1),
  fi 10 (.mv (.t 38)),
  fi 11 (.mv (.t 39))])
 (.seq (.reg [] [fi 40 (.mv (.t 11)),
  fi 41 (.bin .neq (.t 40) (.c (.int .i64 0)))])
 (.ite (.t 41)
 (.seq (.reg [] [fi 42 (.mv (.t 11)),
  fi 6 (.mv (.c (.ptr none))),
  fi 7 (.mv (.t 42))])
 .ret)
 .skip)))
 (.seq (.reg [] [fi 44 (.mv (.t 0)),
  fi 45 (.mv (.t 1)),
  fi 46 (.fieldAddr 0 (.t 5)),
  fi 47 (.load false 1 (.t 46)),
  ei 48 (.call 25 [(.t 44), (.t 45), (.t 47)]),
  fi 43 (.mv (.t 48)),
  fi 49 (.extract (.t 43) 0),
  fi 50 (.extract (.t 43) 1),
  fi 12 (.mv (.t 49)),
  fi 9 (.mv (.t 50))])
 (.seq (.seq (.reg [] [fi 51 (.mv (.t 9)),
  fi 52 (.bin .neq (.t 51) (.c (.int .i64 0)))])
 (.ite (.t 52)
 (.seq (.reg [] [fi 53 (.mv (.t 9)),
  fi 6 (.mv (.c (.ptr none))),
  fi 7 (.mv (.t 53))])
 .ret)
 .skip))
 (.seq (.reg [] [fi 54 (.mv (.t 0)),
  fi 55 (.mv (.t 1)),
  fi 56 (.load true 6 (.t 5)),
  fi 57 (.mv (.t 12)),
  fi 58 (.load true 2 (.t 8)),
  ei 59 (.makeMap),
  ei 60 (.makeMap),
  fi 61 (.build [(.ptr none), (.int .i64 0), (.int .i64 0), (.int .i64 0), (.int .i64 0), (.int .i64 0), (.int .i64 0), (.int .i64 0), (.ptr none), (.int .i64 0), (.sl [] 0 4 .nil), (.int .i64 0), (.sl [] 0 1 .nil), (.int .i64 0), (.map none), (.sl [] 0 3 .nil), (.sl [] 0 13 .nil), (.sl [] 0 5 .nil), (.map none), (.int .i64 0)] [(0, 1, (.t 54)), (1, 1, (.t 55)), (2, 6, (.t 56)), (8, 1, (.t 57)), (9, 2, (.t 58)), (14, 1, (.t 59)), (18, 1, (.t 60))]),
  ei 62 (.box (.t 61)),
  fi 13 (.mv (.t 62))])
 (.seq (.seq (.reg [] [fi 63 (.fieldAddr 1 (.t 5)),
  fi 64 (.load false 1 (.t 63)),
  fi 65 (.mv (.c (.int .i64 0)))])
 (.blk 0 (.loop l_node_Open_0)))
 (.seq (.seq (.reg [] [fi 94 (.mv (.t 13)),
  fi 95 (.nilCheck (.t 94)),
  fi 96 (.fieldAddr 12 (.t 95)),
  fi 97 (.load false 1 (.t 96)),
  fi 98 (.len .sl (.t 97)),
  fi 99 (.mv (.c (.int .i64 0)))])
 (.blk 2 (.loop l_node_Open_1)))
 s_node_Open_0)))))))))
theorem k_node_Open : chkFn Tryz.prog n_node_Open ⟨b_node_Open, [.tmp 6, .tmp 7], 113⟩ = true := by kernel_rfl
abbrev n_node_bit : Nat := 195
def b_node_bit : Cd := (.seq (.reg [] [fi 4 (.mv (.c (.int .u8 0)))])
 (.seq (.seq (.reg [] [fi 5 (.mv (.t 0))])
 (.ite (.t 5)
 (.seq (.reg [] [fi 6 (.mv (.t 1)),
  fi 7 (.bin .shl (.c (.int .u8 1)) (.t 6)),
  fi 4 (.mv (.t 7))])
 .ret)
 .skip))
 (.seq (.reg [] [fi 4 (.mv (.c (.int .u8 0)))])
 .ret)))
theorem k_node_bit : chkFn Tryz.prog n_node_bit ⟨b_node_bit, [.tmp 4], 8⟩ = true := by kernel_rfl
abbrev n_node_message_encode : Nat := 117
def l_node_message_encode_0 : Cd := (.seq (.reg [] [fi 42 (.bin .lss (.t 41) (.t 40))])
 (.seq (.ite (.t 42)
 .skip
 (.exit 0))
 (.seq (.blk 1 (.seq (.reg [] [fi 43 (.indexAddr 1 (.t 39) (.t 41)),
  fi 44 (.load false 1 (.t 43)),
  fi 5 (.mv (.t 44))])
 (.reg [] [fi 45 (.mv (.t 3)),
  fi 46 (.mv (.t 5)),
  ei 47 (.call 125 [(.t 46)]),
  ei 48 (.append 1 1 false (.t 45) (.t 47)),
  fi 3 (.mv (.t 48))])))
 (.reg [] [fi 49 (.bin .add (.t 41) (.c (.int .i64 1))),
  fi 41 (.mv (.t 49))]))))
def l_node_message_encode_1 : Cd := (.seq (.reg [] [fi 63 (.bin .lss (.t 62) (.t 61))])
 (.seq (.ite (.t 63)
 .skip
 (.exit 2))
 (.seq (.blk 3 (.seq (.reg [] [fi 64 (.indexAddr 4 (.t 60) (.t 62)),
  fi 65 (.load true 4 (.t 64)),
  ei 7 (.alloc [(.int .u64 0), (.str (mkS [])), (.int .i64 0), (.str (mkS []))]),
  st (.store 4 (.t 7) (.t 65))])
 (.seq (.reg [] [fi 67 (.load true 4 (.t 7)),
  ei 68 (.call 198 [(.t 67)]),
  fi 66 (.mv (.t 68)),
  fi 69 (.extract (.t 66) 0),
  fi 70 (.extract (.t 66) 1),
  fi 8 (.mv (.t 69)),
  fi 9 (.mv (.t 70))])
 (.reg [] [fi 71 (.mv (.t 3)),
  fi 72 (.mv (.t 8)),
  fi 73 (.conv .bytesStr (.t 72)),
  ei 74 (.call 197 [(.t 73)]),
  ei 75 (.append 1 1 false (.t 71) (.t 74)),
  fi 3 (.mv (.t 75))]))))
 (.reg [] [fi 76 (.bin .add (.t 62) (.c (.int .i64 1))),
  fi 62 (.mv (.t 76))]))))
def s_node_message_encode_0 : Cd := (.seq (.reg [0, 1, 2, 5, 6, 3, 6, 4, 6, 7, 8, 9] [fi 50 (.mv (.t 3)),
  fi 51 (.fieldAddr 10 (.t 1)),
  fi 52 (.load false 1 (.t 51)),
  fi 55 (.fieldAddr 11 (.t 1)),
  fi 56 (.load false 1 (.t 55)),
  ei 53 (.call 197 [(.t 52)]),
  .chk 56 none (.load false 1 (.t 55)),
  ei 54 (.append 1 1 false (.t 50) (.t 53)),
  .chk 56 none (.load false 1 (.t 55)),
  ei 57 (.call 197 [(.t 56)]),
  ei 58 (.append 1 1 false (.t 54) (.t 57)),
  fi 3 (.mv (.t 58))])
 (.seq (.seq (.reg [] [fi 59 (.fieldAddr 12 (.t 1)),
  fi 60 (.load false 1 (.t 59)),
  fi 61 (.len .sl (.t 60)),
  fi 62 (.mv (.c (.int .i64 0)))])
 (.blk 2 (.loop l_node_message_encode_1)))
 (.seq (.reg [] [fi 77 (.mv (.t 3)),
  fi 2 (.mv (.t 77))])
 .ret)))
def b_node_message_encode : Cd := (.seq (.reg [] [ei 1 (.box (.t 0)),
  fi 2 (.mv (.c (.sl [] 0 1 .nil)))])
 (.seq (.reg [0, 1, 2, 3, 5, 6, 9, 10, 11, 4, 1, 6, 10, 7, 1, 10, 8, 12, 13] [fi 10 (.fieldAddr 0 (.t 1)),
  fi 11 (.load false 1 (.t 10)),
  fi 12 (.fieldAddr 1 (.t 1)),
  fi 13 (.load false 1 (.t 12)),
  fi 15 (.fieldAddr 2 (.t 1)),
  fi 16 (.load false 1 (.t 15)),
  fi 19 (.fieldAddr 3 (.t 1)),
  fi 20 (.load false 1 (.t 19)),
  fi 21 (.conv (.int .u8) (.t 20)),
  ei 14 (.call 195 [(.t 13), (.c (.int .i64 0))]),
  .chk 11 none (.load false 1 (.t 10)),
  .chk 16 none (.load false 1 (.t 15)),
  .chk 20 none (.load false 1 (.t 19)),
  ei 17 (.call 195 [(.t 16), (.c (.int .i64 1))]),
  .chk 11 none (.load false 1 (.t 10)),
  .chk 20 none (.load false 1 (.t 19)),
  fi 18 (.bin .or (.t 14) (.t 17)),
  ei 22 (.buildSlice 3 1 0 [(.int .u8 0), (.int .u8 0), (.int .u8 0)] [(0, 1, (.t 11)), (1, 1, (.t 18)), (2, 1, (.t 21))]),
  fi 3 (.mv (.t 22))])
 (.seq (.seq (.reg [0, 1, 2, 3, 4, 5, 6, 7, 8, 9, 10, 11, 12, 13, 14, 18, 15, 1, 3, 5, 8, 11, 16, 17] [fi 23 (.fieldAddr 4 (.t 1)),
  fi 24 (.load false 1 (.t 23)),
  fi 25 (.fieldAddr 5 (.t 1)),
  fi 26 (.load false 1 (.t 25)),
  fi 27 (.fieldAddr 6 (.t 1)),
  fi 28 (.load false 1 (.t 27)),
  fi 29 (.conv (.int .u64) (.t 28)),
  fi 30 (.fieldAddr 7 (.t 1)),
  fi 31 (.load false 1 (.t 30)),
  fi 32 (.conv (.int .u64) (.t 31)),
  fi 33 (.fieldAddr 8 (.t 1)),
  fi 34 (.load false 1 (.t 33)),
  fi 35 (.conv (.int .u64) (.t 34)),
  fi 36 (.fieldAddr 9 (.t 1)),
  fi 37 (.load false 1 (.t 36)),
  fi 41 (.mv (.c (.int .i64 0))),
  ei 38 (.call 196 [(.t 37)]),
  .chk 24 none (.load false 1 (.t 23)),
  .chk 26 none (.load false 1 (.t 25)),
  .chk 28 none (.load false 1 (.t 27)),
  .chk 31 none (.load false 1 (.t 30)),
  .chk 34 none (.load false 1 (.t 33)),
  ei 39 (.buildSlice 6 1 0 [(.int .u64 0), (.int .u64 0), (.int .u64 0), (.int .u64 0), (.int .u64 0), (.int .u64 0)] [(0, 1, (.t 24)), (1, 1, (.t 26)), (2, 1, (.t 29)), (3, 1, (.t 32)), (4, 1, (.t 35)), (5, 1, (.t 38))]),
  fi 40 (.len .sl (.t 39))])
 (.blk 0 (.loop l_node_message_encode_0)))
 s_node_message_encode_0)))
theorem k_node_message_encode : chkFn Tryz.prog n_node_message_encode ⟨b_node_message_encode, [.tmp 2], 78⟩ = true := by kernel_rfl
abbrev n_prim_New : Nat := 58
def b_prim_New : Cd := (.seq (.reg [] [fi 8 (.mv (.c (.ptr none)))])
 (.seq (.reg [] [fi 10 (.mv (.t 0)),
  fi 11 (.mv (.t 1)),
  fi 12 (.mv (.t 2)),
  ei 13 (.makeMap),
  fi 14 (.build [(.int .i64 0), (.int .u64 0), (.int .u64 0), (.map none)] [(0, 1, (.t 10)), (1, 1, (.t 11)), (2, 1, (.t 12)), (3, 1, (.t 13))]),
  ei 15 (.box (.t 14)),
  fi 9 (.mv (.t 15))])
 (.seq (.reg [] [fi 16 (.mv (.t 9)),
  fi 17 (.mv (.t 2)),
  fi 18 (.mv (.t 3)),
  ei 19 (.call 53 [(.t 16), (.t 17), (.t 18)])])
 (.seq (.reg [] [fi 20 (.mv (.t 9)),
  fi 8 (.mv (.t 20))])
 .ret))))
theorem k_prim_New : chkFn Tryz.prog n_prim_New ⟨b_prim_New, [.tmp 8], 21⟩ = true := by kernel_rfl
abbrev n_prim_Prim_Needs : Nat := 101
def k_prim_Prim_Needs_0 : Cd := (.seq (.reg [] [fi 12 (.indexAddr 1 (.t 8) (.t 10)),
  fi 13 (.load false 1 (.t 12)),
  fi 5 (.mv (.t 13))])
 (.seq (.reg [] [fi 14 (.mv (.t 0)),
  fi 15 (.nilCheck (.t 14)),
  fi 16 (.fieldAddr 3 (.t 15)),
  fi 17 (.load false 1 (.t 16)),
  fi 18 (.mv (.t 5)),
  fi 19 (.lookup .int false (.ptr none) (.t 17) (.t 18)),
  fi 6 (.mv (.t 19))])
 (.seq (.reg [] [fi 20 (.mv (.t 6)),
  fi 21 (.nilCheck (.t 20)),
  fi 22 (.fieldAddr 0 (.t 21)),
  fi 23 (.load false 1 (.t 22)),
  fi 24 (.mv (.t 23)),
  .run ⟨(some 25), (some (24, false)), .f (.mv (.t 6))⟩,
  .run ⟨(some 26), (some (24, false)), .f (.nilCheck (.t 25))⟩,
  .run ⟨(some 27), (some (24, false)), .f (.fieldAddr 1 (.t 26))⟩,
  .run ⟨(some 28), (some (24, false)), .f (.load false 1 (.t 27))⟩,
  fi 29 (.pick (.t 24) (.c (.bool true)) (.t 28))])
 (.ite (.t 29)
 (.reg [] [fi 30 (.mv (.t 3)),
  fi 31 (.mv (.t 5)),
  ei 32 (.buildSlice 1 1 0 [(.int .i64 0)] [(0, 1, (.t 31))]),
  ei 33 (.append 1 8 false (.t 30) (.t 32)),
  fi 3 (.mv (.t 33))])
 .skip))))
def l_prim_Prim_Needs_0 : Cd := (.seq (.reg [] [fi 11 (.bin .lss (.t 10) (.t 9))])
 (.seq (.ite (.t 11)
 .skip
 (.exit 0))
 (.seq (.blk 1 k_prim_Prim_Needs_0)
 (.reg [] [fi 34 (.bin .add (.t 10) (.c (.int .i64 1))),
  fi 10 (.mv (.t 34))]))))
def b_prim_Prim_Needs : Cd := (.seq (.reg [] [fi 2 (.mv (.c (.sl [] 0 1 .nil)))])
 (.seq (.reg [] [fi 3 (.mv (.c (.sl [] 0 1 .nil)))])
 (.seq (.seq (.reg [] [fi 7 (.mv (.t 0)),
  ei 8 (.call 106 [(.t 7)]),
  fi 9 (.len .sl (.t 8)),
  fi 10 (.mv (.c (.int .i64 0)))])
 (.blk 0 (.loop l_prim_Prim_Needs_0)))
 (.seq (.reg [] [fi 35 (.mv (.t 3)),
  fi 2 (.mv (.t 35))])
 .ret))))
theorem k_prim_Prim_Needs : chkFn Tryz.prog n_prim_Prim_Needs ⟨b_prim_Prim_Needs, [.tmp 2], 36⟩ = true := by kernel_rfl
abbrev n_prim_Prim_Offer : Nat := 81
def k_prim_Prim_Offer_0 : Cd := (.seq (.reg [] [fi 14 (.indexAddr 1 (.t 10) (.t 12)),
  fi 15 (.load false 1 (.t 14)),
  fi 7 (.mv (.t 15))])
 (.seq (.reg [] [fi 16 (.mv (.t 0)),
  fi 17 (.nilCheck (.t 16)),
  fi 18 (.fieldAddr 3 (.t 17)),
  fi 19 (.load false 1 (.t 18)),
  fi 20 (.mv (.t 7)),
  fi 21 (.lookup .int false (.ptr none) (.t 19) (.t 20)),
  fi 8 (.mv (.t 21))])
 (.seq (.reg [] [fi 22 (.mv (.t 8)),
  fi 23 (.nilCheck (.t 22)),
  fi 24 (.fieldAddr 0 (.t 23)),
  fi 25 (.load false 1 (.t 24)),
  fi 26 (.un .not (.t 25)),
  fi 27 (.mv (.t 26)),
  .run ⟨(some 28), (some (27, true)), .f (.mv (.t 8))⟩,
  .run ⟨(some 29), (some (27, true)), .f (.nilCheck (.t 28))⟩,
  .run ⟨(some 30), (some (27, true)), .f (.fieldAddr 1 (.t 29))⟩,
  .run ⟨(some 31), (some (27, true)), .f (.load false 1 (.t 30))⟩,
  .run ⟨(some 32), (some (27, true)), .f (.mv (.t 31))⟩,
  .run ⟨(some 33), (some (32, false)), .f (.mv (.t 8))⟩,
  .run ⟨(some 34), (some (32, false)), .f (.nilCheck (.t 33))⟩,
  .run ⟨(some 35), (some (32, false)), .f (.fieldAddr 3 (.t 34))⟩,
  .run ⟨(some 36), (some (32, false)), .f (.load false 1 (.t 35))⟩,
  .run ⟨(some 37), (some (32, false)), .f (.mv (.t 36))⟩,
  .run ⟨(some 38), (some (37, true)), .f (.mv (.t 8))⟩,
  .run ⟨(some 39), (some (37, true)), .f (.nilCheck (.t 38))⟩,
  .run ⟨(some 40), (some (37, true)), .f (.fieldAddr 4 (.t 39))⟩,
  .run ⟨(some 41), (some (37, true)), .f (.load false 1 (.t 40))⟩,
  .run ⟨(some 42), (some (37, true)), .f (.mv (.t 1))⟩,
  .run ⟨(some 43), (some (37, true)), .f (.bin .geq (.t 41) (.t 42))⟩,
  .run ⟨(some 44), (some (32, false)), .f (.pick (.t 37) (.t 43) (.c (.bool false)))⟩,
  .run ⟨(some 45), (some (27, true)), .f (.pick (.t 32) (.c (.bool true)) (.t 44))⟩,
  fi 46 (.pick (.t 27) (.t 45) (.c (.bool false)))])
 (.ite (.t 46)
 (.seq (.reg [] [fi 47 (.mv (.t 8)),
  fi 48 (.mv (.t 8)),
  fi 49 (.mv (.t 0)),
  fi 50 (.nilCheck (.t 49)),
  fi 51 (.fieldAddr 2 (.t 50)),
  fi 52 (.load false 1 (.t 51)),
  fi 53 (.nilCheck (.t 47)),
  fi 54 (.fieldAddr 1 (.t 53)),
  st (.store 1 (.t 54) (.c (.bool true))),
  fi 55 (.nilCheck (.t 48)),
  fi 56 (.fieldAddr 2 (.t 55)),
  st (.store 1 (.t 56) (.t 52))])
 (.reg [] [fi 57 (.mv (.t 5)),
  fi 58 (.mv (.t 7)),
  ei 59 (.buildSlice 1 1 0 [(.int .i64 0)] [(0, 1, (.t 58))]),
  ei 60 (.append 1 8 false (.t 57) (.t 59)),
  fi 5 (.mv (.t 60))]))
 .skip))))
def l_prim_Prim_Offer_0 : Cd := (.seq (.reg [] [fi 13 (.bin .lss (.t 12) (.t 11))])
 (.seq (.ite (.t 13)
 .skip
 (.exit 0))
 (.seq (.blk 1 k_prim_Prim_Offer_0)
 (.reg [] [fi 61 (.bin .add (.t 12) (.c (.int .i64 1))),
  fi 12 (.mv (.t 61))]))))
def b_prim_Prim_Offer : Cd := (.seq (.reg [] [fi 4 (.mv (.c (.sl [] 0 1 .nil)))])
 (.seq (.reg [] [fi 5 (.mv (.c (.sl [] 0 1 .nil)))])
 (.seq (.seq (.reg [] [fi 9 (.mv (.t 0)),
  ei 10 (.call 106 [(.t 9)]),
  fi 11 (.len .sl (.t 10)),
  fi 12 (.mv (.c (.int .i64 0)))])
 (.blk 0 (.loop l_prim_Prim_Offer_0)))
 (.seq (.reg [] [fi 62 (.mv (.t 5)),
  fi 4 (.mv (.t 62))])
 .ret))))
theorem k_prim_Prim_Offer : chkFn Tryz.prog n_prim_Prim_Offer ⟨b_prim_Prim_Offer, [.tmp 4], 63⟩ = true := by kernel_rfl
abbrev n_prim_Prim_Peers : Nat := 106
def l_prim_Prim_Peers_0 : Cd := (.seq (.reg [] [ei 12 (.next (.t 11)),
  fi 13 (.extract (.t 12) 0)])
 (.seq (.ite (.t 13)
 .skip
 (.exit 0))
 (.blk 1 (.seq (.reg [] [fi 14 (.entry (.t 11)),
  fi 15 (.extract (.t 14) 0),
  fi 4 (.mv (.t 15))])
 (.reg [] [fi 16 (.mv (.t 3)),
  fi 17 (.mv (.t 4)),
  ei 18 (.buildSlice 1 1 0 [(.int .i64 0)] [(0, 1, (.t 17))]),
  ei 19 (.append 1 8 true (.t 16) (.t 18)),
  fi 3 (.mv (.t 19))])))))
def b_prim_Prim_Peers : Cd := (.seq (.reg [] [fi 2 (.mv (.c (.sl [] 0 1 .nil)))])
 (.seq (.seq (.reg [] [fi 5 (.mv (.t 0)),
  fi 6 (.eq false .ptr (.t 5) (.c (.ptr none)))])
 (.ite (.t 6)
 (.seq (.reg [] [fi 2 (.mv (.c (.sl [] 0 1 .nil)))])
 .ret)
 .skip))
 (.seq (.reg [] [fi 3 (.mv (.c (.sl [] 0 1 .nil)))])
 (.seq (.seq (.reg [] [fi 7 (.mv (.t 0)),
  fi 8 (.nilCheck (.t 7)),
  fi 9 (.fieldAddr 3 (.t 8)),
  fi 10 (.load false 1 (.t 9)),
  ei 11 (.range (.t 10))])
 (.blk 0 (.loop l_prim_Prim_Peers_0)))
 (.seq (.reg [] [fi 20 (.mv (.t 3)),
  ei 21 (.call 44 [(.t 20)])])
 (.seq (.reg [] [fi 22 (.mv (.t 3)),
  fi 2 (.mv (.t 22))])
 .ret))))))
theorem k_prim_Prim_Peers : chkFn Tryz.prog n_prim_Prim_Peers ⟨b_prim_Prim_Peers, [.tmp 2], 23⟩ = true := by kernel_rfl
abbrev n_prim_Prim_Sure : Nat := 100
def l_prim_Prim_Sure_0 : Cd := (.seq (.reg [] [fi 14 (.bin .lss (.t 13) (.t 12))])
 (.seq (.ite (.t 14)
 .skip
 (.exit 0))
 (.seq (.blk 1 (.seq (.reg [] [fi 15 (.indexAddr 1 (.t 11) (.t 13)),
  fi 16 (.load false 1 (.t 15)),
  fi 6 (.mv (.t 16))])
 (.seq (.reg [] [fi 17 (.mv (.t 0)),
  fi 18 (.nilCheck (.t 17)),
  fi 19 (.fieldAddr 3 (.t 18)),
  fi 20 (.load false 1 (.t 19)),
  fi 21 (.mv (.t 6)),
  fi 22 (.lookup .int false (.ptr none) (.t 20) (.t 21)),
  fi 7 (.mv (.t 22))])
 (.seq (.seq (.reg [] [fi 23 (.mv (.t 7)),
  fi 24 (.nilCheck (.t 23)),
  fi 25 (.fieldAddr 3 (.t 24)),
  fi 26 (.load false 1 (.t 25)),
  fi 27 (.un .not (.t 26))])
 (.ite (.t 27)
 (.seq (.reg [] [fi 4 (.mv (.c (.int .i64 0)))])
 .ret)
 .skip))
 (.reg [] [fi 28 (.mv (.t 1)),
  fi 29 (.mv (.t 7)),
  fi 30 (.nilCheck (.t 29)),
  fi 31 (.fieldAddr 4 (.t 30)),
  fi 32 (.load false 1 (.t 31)),
  fi 33 (.minmax false [(.t 28), (.t 32)]),
  fi 1 (.mv (.t 33))])))))
 (.reg [] [fi 34 (.bin .add (.t 13) (.c (.int .i64 1))),
  fi 13 (.mv (.t 34))]))))
def b_prim_Prim_Sure : Cd := (.seq (.reg [] [fi 4 (.mv (.c (.int .i64 0)))])
 (.seq (.seq (.reg [] [fi 8 (.mv (.t 0)),
  fi 9 (.eq false .ptr (.t 8) (.c (.ptr none)))])
 (.ite (.t 9)
 (.seq (.reg [] [fi 4 (.mv (.c (.int .i64 0)))])
 .ret)
 .skip))
 (.seq (.seq (.reg [] [fi 10 (.mv (.t 0)),
  ei 11 (.call 101 [(.t 10)]),
  fi 12 (.len .sl (.t 11)),
  fi 13 (.mv (.c (.int .i64 0)))])
 (.blk 0 (.loop l_prim_Prim_Sure_0)))
 (.seq (.reg [] [fi 35 (.mv (.t 1)),
  fi 36 (.minmax true [(.c (.int .i64 0)), (.t 35)]),
  fi 4 (.mv (.t 36))])
 .ret))))
theorem k_prim_Prim_Sure : chkFn Tryz.prog n_prim_Prim_Sure ⟨b_prim_Prim_Sure, [.tmp 4], 37⟩ = true := by kernel_rfl
abbrev n_prim_Prim_Table : Nat := 53
def k_prim_Prim_Table_0 : Cd := (.seq (.reg [] [fi 29 (.indexAddr 1 (.t 25) (.t 27)),
  fi 30 (.load false 1 (.t 29)),
  fi 7 (.mv (.t 30))])
 (.seq (.reg [] [fi 31 (.mv (.t 7)),
  fi 32 (.mv (.t 0)),
  fi 33 (.nilCheck (.t 32)),
  fi 34 (.fieldAddr 0 (.t 33)),
  fi 35 (.load false 1 (.t 34)),
  fi 36 (.bin .neq (.t 31) (.t 35)),
  fi 37 (.mv (.t 36)),
  .run ⟨(some 38), (some (37, true)), .f (.mv (.t 0))⟩,
  .run ⟨(some 39), (some (37, true)), .f (.nilCheck (.t 38))⟩,
  .run ⟨(some 40), (some (37, true)), .f (.fieldAddr 3 (.t 39))⟩,
  .run ⟨(some 41), (some (37, true)), .f (.load false 1 (.t 40))⟩,
  .run ⟨(some 42), (some (37, true)), .f (.mv (.t 7))⟩,
  .run ⟨(some 43), (some (37, true)), .f (.lookup .int false (.ptr none) (.t 41) (.t 42))⟩,
  .run ⟨(some 44), (some (37, true)), .f (.eq false .ptr (.t 43) (.c (.ptr none)))⟩,
  fi 45 (.pick (.t 37) (.t 44) (.c (.bool false)))])
 (.ite (.t 45)
 (.reg [] [fi 46 (.mv (.t 0)),
  fi 47 (.nilCheck (.t 46)),
  fi 48 (.fieldAddr 3 (.t 47)),
  fi 49 (.load false 1 (.t 48)),
  fi 50 (.mv (.t 7)),
  fi 51 (.build [(.bool false), (.bool false), (.int .u64 0), (.bool false), (.int .i64 0)] []),
  ei 52 (.box (.t 51)),
  st (.mapSet .int (.t 49) (.t 50) (.t 52))])
 .skip)))
def l_prim_Prim_Table_0 : Cd := (.seq (.reg [] [fi 28 (.bin .lss (.t 27) (.t 26))])
 (.seq (.ite (.t 28)
 .skip
 (.exit 0))
 (.seq (.blk 1 k_prim_Prim_Table_0)
 (.reg [] [fi 53 (.bin .add (.t 27) (.c (.int .i64 1))),
  fi 27 (.mv (.t 53))]))))
def k_prim_Prim_Table_1 : Cd := (.seq (.reg [] [fi 61 (.entry (.t 58)),
  fi 62 (.extract (.t 61) 0),
  fi 63 (.extract (.t 61) 1),
  fi 8 (.mv (.t 62)),
  fi 9 (.mv (.t 63))])
 (.seq (.reg [] [fi 64 (.mv (.t 2)),
  fi 65 (.mv (.t 8)),
  ei 66 (.call 99 [(.t 64), (.t 65)]),
  fi 10 (.mv (.t 66))])
 (.seq (.seq (.reg [] [fi 67 (.mv (.t 9)),
  fi 68 (.nilCheck (.t 67)),
  fi 69 (.fieldAddr 0 (.t 68)),
  fi 70 (.load false 1 (.t 69)),
  fi 71 (.mv (.t 70)),
  .run ⟨(some 72), (some (71, true)), .f (.mv (.t 10))⟩,
  .run ⟨(some 73), (some (71, true)), .f (.un .not (.t 72))⟩,
  fi 74 (.pick (.t 71) (.t 73) (.c (.bool false)))])
 (.ite (.t 74)
 (.seq (.reg [] [fi 75 (.mv (.t 0)),
  fi 76 (.nilCheck (.t 75)),
  fi 77 (.fieldAddr 3 (.t 76)),
  fi 78 (.load false 1 (.t 77)),
  fi 79 (.mv (.t 8)),
  st (.delete .int (.t 78) (.t 79))])
 (.exit 3))
 .skip))
 (.seq (.reg [] [fi 80 (.mv (.t 9)),
  fi 81 (.mv (.t 10)),
  fi 82 (.nilCheck (.t 80)),
  fi 83 (.fieldAddr 0 (.t 82)),
  st (.store 1 (.t 83) (.t 81))])
 (.reg [] [fi 84 (.mv (.t 9)),
  fi 85 (.mv (.t 9)),
  fi 86 (.nilCheck (.t 85)),
  fi 87 (.fieldAddr 1 (.t 86)),
  fi 88 (.load false 1 (.t 87)),
  fi 89 (.mv (.t 88)),
  .run ⟨(some 90), (some (89, true)), .f (.mv (.t 10))⟩,
  .run ⟨(some 91), (some (89, true)), .f (.un .not (.t 90))⟩,
  fi 92 (.pick (.t 89) (.t 91) (.c (.bool false))),
  fi 93 (.mv (.t 92)),
  .run ⟨(some 94), (some (93, true)), .f (.mv (.t 9))⟩,
  .run ⟨(some 95), (some (93, true)), .f (.nilCheck (.t 94))⟩,
  .run ⟨(some 96), (some (93, true)), .f (.fieldAddr 2 (.t 95))⟩,
  .run ⟨(some 97), (some (93, true)), .f (.load false 1 (.t 96))⟩,
  .run ⟨(some 98), (some (93, true)), .f (.mv (.t 1))⟩,
  .run ⟨(some 99), (some (93, true)), .f (.bin .eql (.t 97) (.t 98))⟩,
  fi 100 (.pick (.t 93) (.t 99) (.c (.bool false))),
  fi 101 (.nilCheck (.t 84)),
  fi 102 (.fieldAddr 1 (.t 101)),
  st (.store 1 (.t 102) (.t 100))])))))
def l_prim_Prim_Table_1 : Cd := (.seq (.reg [] [ei 59 (.next (.t 58)),
  fi 60 (.extract (.t 59) 0)])
 (.seq (.ite (.t 60)
 .skip
 (.exit 2))
 (.blk 3 k_prim_Prim_Table_1)))
def b_prim_Prim_Table : Cd := (.seq (.seq (.reg [] [fi 11 (.mv (.t 0)),
  fi 12 (.eq false .ptr (.t 11) (.c (.ptr none))),
  fi 13 (.mv (.t 12)),
  .run ⟨(some 14), (some (13, false)), .f (.mv (.t 1))⟩,
  .run ⟨(some 15), (some (13, false)), .f (.mv (.t 0))⟩,
  .run ⟨(some 16), (some (13, false)), .f (.nilCheck (.t 15))⟩,
  .run ⟨(some 17), (some (13, false)), .f (.fieldAddr 2 (.t 16))⟩,
  .run ⟨(some 18), (some (13, false)), .f (.load false 1 (.t 17))⟩,
  .run ⟨(some 19), (some (13, false)), .f (.bin .lss (.t 14) (.t 18))⟩,
  fi 20 (.pick (.t 13) (.c (.bool true)) (.t 19))])
 (.ite (.t 20)
 .ret
 .skip))
 (.seq (.reg [] [fi 21 (.mv (.t 0)),
  fi 22 (.mv (.t 1)),
  fi 23 (.nilCheck (.t 21)),
  fi 24 (.fieldAddr 2 (.t 23)),
  st (.store 1 (.t 24) (.t 22))])
 (.seq (.seq (.reg [] [fi 25 (.mv (.t 2)),
  fi 26 (.len .sl (.t 25)),
  fi 27 (.mv (.c (.int .i64 0)))])
 (.blk 0 (.loop l_prim_Prim_Table_0)))
 (.seq (.reg [] [fi 54 (.mv (.t 0)),
  fi 55 (.nilCheck (.t 54)),
  fi 56 (.fieldAddr 3 (.t 55)),
  fi 57 (.load false 1 (.t 56)),
  ei 58 (.range (.t 57))])
 (.blk 2 (.loop l_prim_Prim_Table_1))))))
theorem k_prim_Prim_Table : chkFn Tryz.prog n_prim_Prim_Table ⟨b_prim_Prim_Table, [], 103⟩ = true := by kernel_rfl
abbrev n_prim_Prim_Term : Nat := 33
def b_prim_Prim_Term : Cd := (.seq (.reg [] [fi 2 (.mv (.c (.int .u64 0)))])
 (.seq (.seq (.reg [] [fi 3 (.mv (.t 0)),
  fi 4 (.eq false .ptr (.t 3) (.c (.ptr none)))])
 (.ite (.t 4)
 (.seq (.reg [] [fi 2 (.mv (.c (.int .u64 0)))])
 .ret)
 .skip))
 (.seq (.reg [] [fi 5 (.mv (.t 0)),
  fi 6 (.nilCheck (.t 5)),
  fi 7 (.fieldAddr 1 (.t 6)),
  fi 8 (.load false 1 (.t 7)),
  fi 2 (.mv (.t 8))])
 .ret)))
theorem k_prim_Prim_Term : chkFn Tryz.prog n_prim_Prim_Term ⟨b_prim_Prim_Term, [.tmp 2], 9⟩ = true := by kernel_rfl
end Go.VM
