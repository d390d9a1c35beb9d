/-
  NodePatience, run: the draws by their residues, part 1.
-/
import Derived.Test.YthpiomallkidlaaGreatDoorJ12
import Derived.KernelRfl
set_option maxRecDepth 1000000
namespace Go.VM
open Go Go.Proofs
theorem pat0 : runPat 0 = true := by kernel_rfl
theorem pat1 : runPat 1 = true := by kernel_rfl
theorem pat2 : runPat 2 = true := by kernel_rfl
theorem pat3 : runPat 3 = true := by kernel_rfl
theorem pat4 : runPat 4 = true := by kernel_rfl
end Go.VM
