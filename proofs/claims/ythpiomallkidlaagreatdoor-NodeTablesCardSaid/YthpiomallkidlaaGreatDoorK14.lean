/-
  NodeTables: cases that the kernel runs.
-/
import Derived.Test.YthpiomallkidlaaGreatDoorK12
import Derived.KernelRfl
set_option maxRecDepth 1000000
namespace Go.VM
open Go Go.Proofs
theorem nq131 (a b c d : Int) : Is (okK a b c d 1 3 1 1) := by unfold Is; kernel_rfl
theorem nq414 (a b c d : Int) : Is (okK a b c d 4 1 4 4) := by unfold Is; kernel_rfl
theorem nq434 (a b c d : Int) : Is (okK a b c d 4 3 4 4) := by unfold Is; kernel_rfl
theorem nq452 (a b c d : Int) : Is (okK a b c d 4 5 2 4) := by unfold Is; kernel_rfl
theorem nq513 (a b c d : Int) : Is (okK a b c d 5 1 3 5) := by unfold Is; kernel_rfl
theorem nq522 (a b c d : Int) : Is (okK a b c d 5 2 2 5) := by unfold Is; kernel_rfl
theorem nq523 (a b c d : Int) : Is (okK a b c d 5 2 3 5) := by unfold Is; kernel_rfl
theorem nq543 (a b c d : Int) : Is (okK a b c d 5 4 3 5) := by unfold Is; kernel_rfl
theorem nq545 (a b c d : Int) : Is (okK a b c d 5 4 5 5) := by unfold Is; kernel_rfl
theorem nq584 (a b c d : Int) : Is (okK a b c d 5 8 4 5) := by unfold Is; kernel_rfl
end Go.VM
