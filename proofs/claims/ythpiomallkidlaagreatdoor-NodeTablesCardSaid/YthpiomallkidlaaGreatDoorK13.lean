/-
  NodeTables: cases that the kernel runs.
-/
import Derived.Test.YthpiomallkidlaaGreatDoorK12
import Derived.KernelRfl
set_option maxRecDepth 1000000
namespace Go.VM
open Go Go.Proofs
theorem nq111 (a b c d : Int) : Is (okK a b c d 1 1 1 1) := by unfold Is; kernel_rfl
theorem nq161 (a b c d : Int) : Is (okK a b c d 1 6 1 1) := by unfold Is; kernel_rfl
theorem nq252 (a b c d : Int) : Is (okK a b c d 2 5 2 2) := by unfold Is; kernel_rfl
theorem nq282 (a b c d : Int) : Is (okK a b c d 2 8 2 2) := by unfold Is; kernel_rfl
theorem nq373 (a b c d : Int) : Is (okK a b c d 3 7 3 3) := by unfold Is; kernel_rfl
theorem nq381 (a b c d : Int) : Is (okK a b c d 3 8 1 3) := by unfold Is; kernel_rfl
theorem nq432 (a b c d : Int) : Is (okK a b c d 4 3 2 4) := by unfold Is; kernel_rfl
theorem nq512 (a b c d : Int) : Is (okK a b c d 5 1 2 5) := by unfold Is; kernel_rfl
theorem nq553 (a b c d : Int) : Is (okK a b c d 5 5 3 5) := by unfold Is; kernel_rfl
theorem nq585 (a b c d : Int) : Is (okK a b c d 5 8 5 5) := by unfold Is; kernel_rfl
end Go.VM
