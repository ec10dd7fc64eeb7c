/- Operations' names: what text.Name, the document's Name give of each number. -/
import Derived.Test.YtimbamlodfohmaaDoorTxtN
namespace Go.SX.Txt
open Go Go.SX Go.Proofs
set_option maxRecDepth 1000000
set_option linter.unusedSectionVars false
section
variable [Env]
theorem nm6_2 : nmRun 6 (.c 2) (nameS 2) [] = true := by kernel_rfl
theorem nm7_2 : nmRun 7 (.c 2) (nameS 2) [] = true := by kernel_rfl
theorem nm6_6 : nmRun 6 (.c 6) (nameS 6) [] = true := by kernel_rfl
theorem nm7_6 : nmRun 7 (.c 6) (nameS 6) [] = true := by kernel_rfl
theorem nm6_10 : nmRun 6 (.c 10) (nameS 10) [] = true := by kernel_rfl
theorem nm7_10 : nmRun 7 (.c 10) (nameS 10) [] = true := by kernel_rfl
theorem nm6_14 : nmRun 6 (.c 14) (nameS 14) [] = true := by kernel_rfl
theorem nm7_14 : nmRun 7 (.c 14) (nameS 14) [] = true := by kernel_rfl
theorem nm6_18 : nmRun 6 (.c 18) (nameS 18) [] = true := by kernel_rfl
theorem nm7_18 : nmRun 7 (.c 18) (nameS 18) [] = true := by kernel_rfl
theorem nm6_22 : nmRun 6 (.c 22) (nameS 22) [] = true := by kernel_rfl
theorem nm7_22 : nmRun 7 (.c 22) (nameS 22) [] = true := by kernel_rfl
theorem nm6_26 : nmRun 6 (.c 26) (nameS 26) [] = true := by kernel_rfl
theorem nm7_26 : nmRun 7 (.c 26) (nameS 26) [] = true := by kernel_rfl
theorem nm6_30 : nmRun 6 (.c 30) (nameS 30) [] = true := by kernel_rfl
theorem nm7_30 : nmRun 7 (.c 30) (nameS 30) [] = true := by kernel_rfl
theorem nm6_34 : nmRun 6 (.c 34) (nameS 34) [] = true := by kernel_rfl
theorem nm7_34 : nmRun 7 (.c 34) (nameS 34) [] = true := by kernel_rfl
theorem nm6_38 : nmRun 6 (.c 38) (nameS 38) [] = true := by kernel_rfl
theorem nm7_38 : nmRun 7 (.c 38) (nameS 38) [] = true := by kernel_rfl
theorem nm6_42 : nmRun 6 (.c 42) (nameS 42) [] = true := by kernel_rfl
theorem nm7_42 : nmRun 7 (.c 42) (nameS 42) [] = true := by kernel_rfl
theorem nm6_46 : nmRun 6 (.c 46) (nameS 46) [] = true := by kernel_rfl
theorem nm7_46 : nmRun 7 (.c 46) (nameS 46) [] = true := by kernel_rfl
theorem nm6_50 : nmRun 6 (.c 50) (nameS 50) [] = true := by kernel_rfl
theorem nm7_50 : nmRun 7 (.c 50) (nameS 50) [] = true := by kernel_rfl
theorem nm6_54 : nmRun 6 (.c 54) (nameS 54) [] = true := by kernel_rfl
theorem nm7_54 : nmRun 7 (.c 54) (nameS 54) [] = true := by kernel_rfl
theorem nm6_58 : nmRun 6 (.c 58) (nameS 58) [] = true := by kernel_rfl
theorem nm7_58 : nmRun 7 (.c 58) (nameS 58) [] = true := by kernel_rfl
end
end Go.SX.Txt
