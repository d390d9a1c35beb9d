/-
  NodeTables: cases that the kernel runs.
-/
import Derived.Test.YthpiomallkidlaaGreatDoorK12
import Derived.KernelRfl
set_option maxRecDepth 1000000
namespace Go.VM
open Go Go.Proofs
theorem nq141 (a b c d : Int) : Is (okK a b c d 1 4 1 1) := by unfold Is; kernel_rfl
theorem nq181 (a b c d : Int) : Is (okK a b c d 1 8 1 1) := by unfold Is; kernel_rfl
theorem nq271 (a b c d : Int) : Is (okK a b c d 2 7 1 2) := by unfold Is; kernel_rfl
theorem nq272 (a b c d : Int) : Is (okK a b c d 2 7 2 2) := by unfold Is; kernel_rfl
theorem nq323 (a b c d : Int) : Is (okK a b c d 3 2 3 3) := by unfold Is; kernel_rfl
theorem nq363 (a b c d : Int) : Is (okK a b c d 3 6 3 3) := by unfold Is; kernel_rfl
theorem nq371 (a b c d : Int) : Is (okK a b c d 3 7 1 3) := by unfold Is; kernel_rfl
theorem nq464 (a b c d : Int) : Is (okK a b c d 4 6 4 4) := by unfold Is; kernel_rfl
theorem nq552 (a b c d : Int) : Is (okK a b c d 5 5 2 5) := by unfold Is; kernel_rfl
theorem nq574 (a b c d : Int) : Is (okK a b c d 5 7 4 5) := by unfold Is; kernel_rfl
end Go.VM
