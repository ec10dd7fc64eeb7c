/- ClassTells: One comes to something, of some of the beginnings. -/
import Derived.Test.YtndcomioiakepaaTelA
namespace Go.SX.Tel
open Go Go.SX Go.Proofs Go.SX.Op
set_option maxRecDepth 1000000
set_option linter.unusedSectionVars false
section
variable [Env]
theorem ones5 : heads5.all (fun h => oneRun (headC h)) = true := by kernel_rfl
theorem ones6 : heads6.all (fun h => oneRun (headC h)) = true := by kernel_rfl
theorem ones7 : heads7.all (fun h => oneRun (headC h)) = true := by kernel_rfl
theorem ones8 : heads8.all (fun h => oneRun (headC h)) = true := by kernel_rfl
theorem ones9 : heads9.all (fun h => oneRun (headC h)) = true := by kernel_rfl
end
end Go.SX.Tel
