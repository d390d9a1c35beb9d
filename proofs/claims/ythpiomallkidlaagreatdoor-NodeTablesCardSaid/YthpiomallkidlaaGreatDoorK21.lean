/-
  NodeTables: cases that the kernel runs.
-/
import Derived.Test.YthpiomallkidlaaGreatDoorK12
import Derived.KernelRfl
set_option maxRecDepth 1000000
namespace Go.VM
open Go Go.Proofs
theorem nq171 (a b c d : Int) : Is (okK a b c d 1 7 1 1) := by unfold Is; kernel_rfl
theorem nq222 (a b c d : Int) : Is (okK a b c d 2 2 2 2) := by unfold Is; kernel_rfl
theorem nq431 (a b c d : Int) : Is (okK a b c d 4 3 1 4) := by unfold Is; kernel_rfl
theorem nq461 (a b c d : Int) : Is (okK a b c d 4 6 1 4) := by unfold Is; kernel_rfl
theorem nq514 (a b c d : Int) : Is (okK a b c d 5 1 4 5) := by unfold Is; kernel_rfl
theorem nq531 (a b c d : Int) : Is (okK a b c d 5 3 1 5) := by unfold Is; kernel_rfl
theorem nq541 (a b c d : Int) : Is (okK a b c d 5 4 1 5) := by unfold Is; kernel_rfl
theorem nq561 (a b c d : Int) : Is (okK a b c d 5 6 1 5) := by unfold Is; kernel_rfl
theorem nq581 (a b c d : Int) : Is (okK a b c d 5 8 1 5) := by unfold Is; kernel_rfl
theorem nq582 (a b c d : Int) : Is (okK a b c d 5 8 2 5) := by unfold Is; kernel_rfl
end Go.VM
