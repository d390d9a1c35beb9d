/-
  NodeTables: cases that the kernel runs.
-/
import Derived.Test.YthpiomallkidlaaGreatDoorK12
import Derived.KernelRfl
set_option maxRecDepth 1000000
namespace Go.VM
open Go Go.Proofs
theorem nq313 (a b c d : Int) : Is (okK a b c d 3 1 3 3) := by unfold Is; kernel_rfl
theorem nq332 (a b c d : Int) : Is (okK a b c d 3 3 2 3) := by unfold Is; kernel_rfl
theorem nq411 (a b c d : Int) : Is (okK a b c d 4 1 1 4) := by unfold Is; kernel_rfl
theorem nq423 (a b c d : Int) : Is (okK a b c d 4 2 3 4) := by unfold Is; kernel_rfl
theorem nq433 (a b c d : Int) : Is (okK a b c d 4 3 3 4) := by unfold Is; kernel_rfl
theorem nq462 (a b c d : Int) : Is (okK a b c d 4 6 2 4) := by unfold Is; kernel_rfl
theorem nq533 (a b c d : Int) : Is (okK a b c d 5 3 3 5) := by unfold Is; kernel_rfl
theorem nq542 (a b c d : Int) : Is (okK a b c d 5 4 2 5) := by unfold Is; kernel_rfl
theorem nq562 (a b c d : Int) : Is (okK a b c d 5 6 2 5) := by unfold Is; kernel_rfl
theorem nq583 (a b c d : Int) : Is (okK a b c d 5 8 3 5) := by unfold Is; kernel_rfl
end Go.VM
