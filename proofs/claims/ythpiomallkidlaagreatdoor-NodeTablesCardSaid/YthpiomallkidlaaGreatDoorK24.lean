/-
  NodeTables: cases that the kernel runs.
-/
import Derived.Test.YthpiomallkidlaaGreatDoorK12
import Derived.KernelRfl
set_option maxRecDepth 1000000
namespace Go.VM
open Go Go.Proofs
theorem nq221 (a b c d : Int) : Is (okK a b c d 2 2 1 2) := by unfold Is; kernel_rfl
theorem nq251 (a b c d : Int) : Is (okK a b c d 2 5 1 2) := by unfold Is; kernel_rfl
theorem nq321 (a b c d : Int) : Is (okK a b c d 3 2 1 3) := by unfold Is; kernel_rfl
theorem nq352 (a b c d : Int) : Is (okK a b c d 3 5 2 3) := by unfold Is; kernel_rfl
theorem nq442 (a b c d : Int) : Is (okK a b c d 4 4 2 4) := by unfold Is; kernel_rfl
theorem nq453 (a b c d : Int) : Is (okK a b c d 4 5 3 4) := by unfold Is; kernel_rfl
theorem nq463 (a b c d : Int) : Is (okK a b c d 4 6 3 4) := by unfold Is; kernel_rfl
theorem nq474 (a b c d : Int) : Is (okK a b c d 4 7 4 4) := by unfold Is; kernel_rfl
theorem nq521 (a b c d : Int) : Is (okK a b c d 5 2 1 5) := by unfold Is; kernel_rfl
theorem nq555 (a b c d : Int) : Is (okK a b c d 5 5 5 5) := by unfold Is; kernel_rfl
end Go.VM
