/- ClassTells: One comes to something, of some of the beginnings. -/
import Derived.Test.YtndcomioiakepaaTelA
namespace Go.SX.Tel
open Go Go.SX Go.Proofs Go.SX.Op
set_option maxRecDepth 1000000
set_option linter.unusedSectionVars false
section
variable [Env]
theorem ones0 : heads0.all (fun h => oneRun (headC h)) = true := by kernel_rfl
theorem ones1 : heads1.all (fun h => oneRun (headC h)) = true := by kernel_rfl
theorem ones2 : heads2.all (fun h => oneRun (headC h)) = true := by kernel_rfl
theorem ones3 : heads3.all (fun h => oneRun (headC h)) = true := by kernel_rfl
theorem ones4 : heads4.all (fun h => oneRun (headC h)) = true := by kernel_rfl
end
end Go.SX.Tel
