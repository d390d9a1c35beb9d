/-
  NodeTables: cases that the kernel runs.
-/
import Derived.Test.YthpiomallkidlaaGreatDoorK12
import Derived.KernelRfl
set_option maxRecDepth 1000000
namespace Go.VM
open Go Go.Proofs
theorem nq231 (a b c d : Int) : Is (okK a b c d 2 3 1 2) := by unfold Is; kernel_rfl
theorem nq312 (a b c d : Int) : Is (okK a b c d 3 1 2 3) := by unfold Is; kernel_rfl
theorem nq341 (a b c d : Int) : Is (okK a b c d 3 4 1 3) := by unfold Is; kernel_rfl
theorem nq353 (a b c d : Int) : Is (okK a b c d 3 5 3 3) := by unfold Is; kernel_rfl
theorem nq383 (a b c d : Int) : Is (okK a b c d 3 8 3 3) := by unfold Is; kernel_rfl
theorem nq422 (a b c d : Int) : Is (okK a b c d 4 2 2 4) := by unfold Is; kernel_rfl
theorem nq441 (a b c d : Int) : Is (okK a b c d 4 4 1 4) := by unfold Is; kernel_rfl
theorem nq535 (a b c d : Int) : Is (okK a b c d 5 3 5 5) := by unfold Is; kernel_rfl
theorem nq554 (a b c d : Int) : Is (okK a b c d 5 5 4 5) := by unfold Is; kernel_rfl
theorem nq573 (a b c d : Int) : Is (okK a b c d 5 7 3 5) := by unfold Is; kernel_rfl
end Go.VM
