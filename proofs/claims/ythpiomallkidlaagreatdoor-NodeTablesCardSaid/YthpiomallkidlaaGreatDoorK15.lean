/-
  NodeTables: cases that the kernel runs.
-/
import Derived.Test.YthpiomallkidlaaGreatDoorK12
import Derived.KernelRfl
set_option maxRecDepth 1000000
namespace Go.VM
open Go Go.Proofs
theorem nq121 (a b c d : Int) : Is (okK a b c d 1 2 1 1) := by unfold Is; kernel_rfl
theorem nq232 (a b c d : Int) : Is (okK a b c d 2 3 2 2) := by unfold Is; kernel_rfl
theorem nq262 (a b c d : Int) : Is (okK a b c d 2 6 2 2) := by unfold Is; kernel_rfl
theorem nq351 (a b c d : Int) : Is (okK a b c d 3 5 1 3) := by unfold Is; kernel_rfl
theorem nq421 (a b c d : Int) : Is (okK a b c d 4 2 1 4) := by unfold Is; kernel_rfl
theorem nq471 (a b c d : Int) : Is (okK a b c d 4 7 1 4) := by unfold Is; kernel_rfl
theorem nq525 (a b c d : Int) : Is (okK a b c d 5 2 5 5) := by unfold Is; kernel_rfl
theorem nq534 (a b c d : Int) : Is (okK a b c d 5 3 4 5) := by unfold Is; kernel_rfl
theorem nq571 (a b c d : Int) : Is (okK a b c d 5 7 1 5) := by unfold Is; kernel_rfl
theorem nq575 (a b c d : Int) : Is (okK a b c d 5 7 5 5) := by unfold Is; kernel_rfl
end Go.VM
