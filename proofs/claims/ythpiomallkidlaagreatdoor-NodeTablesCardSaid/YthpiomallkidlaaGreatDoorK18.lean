/-
  NodeTables: cases that the kernel runs.
-/
import Derived.Test.YthpiomallkidlaaGreatDoorK12
import Derived.KernelRfl
set_option maxRecDepth 1000000
namespace Go.VM
open Go Go.Proofs
theorem nq151 (a b c d : Int) : Is (okK a b c d 1 5 1 1) := by unfold Is; kernel_rfl
theorem nq333 (a b c d : Int) : Is (okK a b c d 3 3 3 3) := by unfold Is; kernel_rfl
theorem nq362 (a b c d : Int) : Is (okK a b c d 3 6 2 3) := by unfold Is; kernel_rfl
theorem nq372 (a b c d : Int) : Is (okK a b c d 3 7 2 3) := by unfold Is; kernel_rfl
theorem nq412 (a b c d : Int) : Is (okK a b c d 4 1 2 4) := by unfold Is; kernel_rfl
theorem nq454 (a b c d : Int) : Is (okK a b c d 4 5 4 4) := by unfold Is; kernel_rfl
theorem nq482 (a b c d : Int) : Is (okK a b c d 4 8 2 4) := by unfold Is; kernel_rfl
theorem nq515 (a b c d : Int) : Is (okK a b c d 5 1 5 5) := by unfold Is; kernel_rfl
theorem nq524 (a b c d : Int) : Is (okK a b c d 5 2 4 5) := by unfold Is; kernel_rfl
theorem nq565 (a b c d : Int) : Is (okK a b c d 5 6 5 5) := by unfold Is; kernel_rfl
end Go.VM
