/-
  NodeTables: cases that the kernel runs.
-/
import Derived.Test.YthpiomallkidlaaGreatDoorK12
import Derived.KernelRfl
set_option maxRecDepth 1000000
namespace Go.VM
open Go Go.Proofs
theorem nq212 (a b c d : Int) : Is (okK a b c d 2 1 2 2) := by unfold Is; kernel_rfl
theorem nq241 (a b c d : Int) : Is (okK a b c d 2 4 1 2) := by unfold Is; kernel_rfl
theorem nq281 (a b c d : Int) : Is (okK a b c d 2 8 1 2) := by unfold Is; kernel_rfl
theorem nq322 (a b c d : Int) : Is (okK a b c d 3 2 2 3) := by unfold Is; kernel_rfl
theorem nq342 (a b c d : Int) : Is (okK a b c d 3 4 2 3) := by unfold Is; kernel_rfl
theorem nq443 (a b c d : Int) : Is (okK a b c d 4 4 3 4) := by unfold Is; kernel_rfl
theorem nq444 (a b c d : Int) : Is (okK a b c d 4 4 4 4) := by unfold Is; kernel_rfl
theorem nq544 (a b c d : Int) : Is (okK a b c d 5 4 4 5) := by unfold Is; kernel_rfl
theorem nq563 (a b c d : Int) : Is (okK a b c d 5 6 3 5) := by unfold Is; kernel_rfl
theorem nq564 (a b c d : Int) : Is (okK a b c d 5 6 4 5) := by unfold Is; kernel_rfl
end Go.VM
