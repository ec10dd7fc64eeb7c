/- ClassTells: One comes to something, of some of the beginnings. -/
import Derived.Test.YtndcomioiakepaaTelA
namespace Go.SX.Tel
open Go Go.SX Go.Proofs Go.SX.Op
set_option maxRecDepth 1000000
set_option linter.unusedSectionVars false
section
variable [Env]
theorem ones10 : heads10.all (fun h => oneRun (headC h)) = true := by kernel_rfl
theorem ones11 : heads11.all (fun h => oneRun (headC h)) = true := by kernel_rfl
theorem ones12 : heads12.all (fun h => oneRun (headC h)) = true := by kernel_rfl
theorem ones13 : heads13.all (fun h => oneRun (headC h)) = true := by kernel_rfl
theorem ones14 : heads14.all (fun h => oneRun (headC h)) = true := by kernel_rfl
end
end Go.SX.Tel
