/-
  NodeTables: cases that the kernel runs.
-/
import Derived.Test.YthpiomallkidlaaGreatDoorK12
import Derived.KernelRfl
set_option maxRecDepth 1000000
namespace Go.VM
open Go Go.Proofs
theorem nq211 (a b c d : Int) : Is (okK a b c d 2 1 1 2) := by unfold Is; kernel_rfl
theorem nq242 (a b c d : Int) : Is (okK a b c d 2 4 2 2) := by unfold Is; kernel_rfl
theorem nq343 (a b c d : Int) : Is (okK a b c d 3 4 3 3) := by unfold Is; kernel_rfl
theorem nq424 (a b c d : Int) : Is (okK a b c d 4 2 4 4) := by unfold Is; kernel_rfl
theorem nq451 (a b c d : Int) : Is (okK a b c d 4 5 1 4) := by unfold Is; kernel_rfl
theorem nq473 (a b c d : Int) : Is (okK a b c d 4 7 3 4) := by unfold Is; kernel_rfl
theorem nq481 (a b c d : Int) : Is (okK a b c d 4 8 1 4) := by unfold Is; kernel_rfl
theorem nq484 (a b c d : Int) : Is (okK a b c d 4 8 4 4) := by unfold Is; kernel_rfl
theorem nq511 (a b c d : Int) : Is (okK a b c d 5 1 1 5) := by unfold Is; kernel_rfl
theorem nq551 (a b c d : Int) : Is (okK a b c d 5 5 1 5) := by unfold Is; kernel_rfl
end Go.VM
