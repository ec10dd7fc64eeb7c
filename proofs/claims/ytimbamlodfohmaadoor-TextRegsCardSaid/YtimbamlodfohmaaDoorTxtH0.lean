/- Hexadecimal digits: runs by how many there are. -/
import Derived.Test.YtimbamlodfohmaaDoorTxtH
namespace Go.SX.Txt
open Go Go.SX Go.Proofs
set_option maxRecDepth 1000000
set_option linter.unusedSectionVars false
section
variable [Env]
theorem num0 : hexRun 16 [48, 120] 0 = true := by kernel_rfl
theorem num1 : hexRun 16 [48, 120] 1 = true := by kernel_rfl
theorem num2 : hexRun 16 [48, 120] 2 = true := by kernel_rfl
theorem num3 : hexRun 16 [48, 120] 3 = true := by kernel_rfl
theorem num4 : hexRun 16 [48, 120] 4 = true := by kernel_rfl
theorem num5 : hexRun 16 [48, 120] 5 = true := by kernel_rfl
theorem num6 : hexRun 16 [48, 120] 6 = true := by kernel_rfl
theorem num7 : hexRun 16 [48, 120] 7 = true := by kernel_rfl
theorem hex0 : hexRun 19 [] 0 = true := by kernel_rfl
theorem hex1 : hexRun 19 [] 1 = true := by kernel_rfl
theorem hex2 : hexRun 19 [] 2 = true := by kernel_rfl
theorem hex3 : hexRun 19 [] 3 = true := by kernel_rfl
theorem hex4 : hexRun 19 [] 4 = true := by kernel_rfl
theorem hex5 : hexRun 19 [] 5 = true := by kernel_rfl
theorem hex6 : hexRun 19 [] 6 = true := by kernel_rfl
theorem hex7 : hexRun 19 [] 7 = true := by kernel_rfl
end
end Go.SX.Txt
