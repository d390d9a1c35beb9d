/-
  NodePatience, run: the draws by their residues, part 2.
-/
import Derived.Test.YthpiomallkidlaaGreatDoorJ12
import Derived.KernelRfl
set_option maxRecDepth 1000000
namespace Go.VM
open Go Go.Proofs
theorem pat5 : runPat 5 = true := by kernel_rfl
theorem pat6 : runPat 6 = true := by kernel_rfl
theorem pat7 : runPat 7 = true := by kernel_rfl
theorem pat8 : runPat 8 = true := by kernel_rfl
theorem pat9 : runPat 9 = true := by kernel_rfl
end Go.VM
