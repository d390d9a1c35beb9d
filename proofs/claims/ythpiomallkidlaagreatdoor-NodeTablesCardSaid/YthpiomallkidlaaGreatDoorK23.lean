/-
  NodeTables: cases that the kernel runs.
-/
import Derived.Test.YthpiomallkidlaaGreatDoorK12
import Derived.KernelRfl
set_option maxRecDepth 1000000
namespace Go.VM
open Go Go.Proofs
theorem nq261 (a b c d : Int) : Is (okK a b c d 2 6 1 2) := by unfold Is; kernel_rfl
theorem nq311 (a b c d : Int) : Is (okK a b c d 3 1 1 3) := by unfold Is; kernel_rfl
theorem nq331 (a b c d : Int) : Is (okK a b c d 3 3 1 3) := by unfold Is; kernel_rfl
theorem nq361 (a b c d : Int) : Is (okK a b c d 3 6 1 3) := by unfold Is; kernel_rfl
theorem nq382 (a b c d : Int) : Is (okK a b c d 3 8 2 3) := by unfold Is; kernel_rfl
theorem nq413 (a b c d : Int) : Is (okK a b c d 4 1 3 4) := by unfold Is; kernel_rfl
theorem nq472 (a b c d : Int) : Is (okK a b c d 4 7 2 4) := by unfold Is; kernel_rfl
theorem nq483 (a b c d : Int) : Is (okK a b c d 4 8 3 4) := by unfold Is; kernel_rfl
theorem nq532 (a b c d : Int) : Is (okK a b c d 5 3 2 5) := by unfold Is; kernel_rfl
theorem nq572 (a b c d : Int) : Is (okK a b c d 5 7 2 5) := by unfold Is; kernel_rfl
end Go.VM
