/- Operations' names: what text.Name, the document's Name give of each number. -/
import Derived.Test.YtimbamlodfohmaaDoorTxtN
namespace Go.SX.Txt
open Go Go.SX Go.Proofs
set_option maxRecDepth 1000000
set_option linter.unusedSectionVars false
section
variable [Env]
theorem nm6_1 : nmRun 6 (.c 1) (nameS 1) [] = true := by kernel_rfl
theorem nm7_1 : nmRun 7 (.c 1) (nameS 1) [] = true := by kernel_rfl
theorem nm6_5 : nmRun 6 (.c 5) (nameS 5) [] = true := by kernel_rfl
theorem nm7_5 : nmRun 7 (.c 5) (nameS 5) [] = true := by kernel_rfl
theorem nm6_9 : nmRun 6 (.c 9) (nameS 9) [] = true := by kernel_rfl
theorem nm7_9 : nmRun 7 (.c 9) (nameS 9) [] = true := by kernel_rfl
theorem nm6_13 : nmRun 6 (.c 13) (nameS 13) [] = true := by kernel_rfl
theorem nm7_13 : nmRun 7 (.c 13) (nameS 13) [] = true := by kernel_rfl
theorem nm6_17 : nmRun 6 (.c 17) (nameS 17) [] = true := by kernel_rfl
theorem nm7_17 : nmRun 7 (.c 17) (nameS 17) [] = true := by kernel_rfl
theorem nm6_21 : nmRun 6 (.c 21) (nameS 21) [] = true := by kernel_rfl
theorem nm7_21 : nmRun 7 (.c 21) (nameS 21) [] = true := by kernel_rfl
theorem nm6_25 : nmRun 6 (.c 25) (nameS 25) [] = true := by kernel_rfl
theorem nm7_25 : nmRun 7 (.c 25) (nameS 25) [] = true := by kernel_rfl
theorem nm6_29 : nmRun 6 (.c 29) (nameS 29) [] = true := by kernel_rfl
theorem nm7_29 : nmRun 7 (.c 29) (nameS 29) [] = true := by kernel_rfl
theorem nm6_33 : nmRun 6 (.c 33) (nameS 33) [] = true := by kernel_rfl
theorem nm7_33 : nmRun 7 (.c 33) (nameS 33) [] = true := by kernel_rfl
theorem nm6_37 : nmRun 6 (.c 37) (nameS 37) [] = true := by kernel_rfl
theorem nm7_37 : nmRun 7 (.c 37) (nameS 37) [] = true := by kernel_rfl
theorem nm6_41 : nmRun 6 (.c 41) (nameS 41) [] = true := by kernel_rfl
theorem nm7_41 : nmRun 7 (.c 41) (nameS 41) [] = true := by kernel_rfl
theorem nm6_45 : nmRun 6 (.c 45) (nameS 45) [] = true := by kernel_rfl
theorem nm7_45 : nmRun 7 (.c 45) (nameS 45) [] = true := by kernel_rfl
theorem nm6_49 : nmRun 6 (.c 49) (nameS 49) [] = true := by kernel_rfl
theorem nm7_49 : nmRun 7 (.c 49) (nameS 49) [] = true := by kernel_rfl
theorem nm6_53 : nmRun 6 (.c 53) (nameS 53) [] = true := by kernel_rfl
theorem nm7_53 : nmRun 7 (.c 53) (nameS 53) [] = true := by kernel_rfl
theorem nm6_57 : nmRun 6 (.c 57) (nameS 57) [] = true := by kernel_rfl
theorem nm7_57 : nmRun 7 (.c 57) (nameS 57) [] = true := by kernel_rfl
theorem nm6_61 : nmRun 6 (.c 61) (nameS 61) [] = true := by kernel_rfl
theorem nm7_61 : nmRun 7 (.c 61) (nameS 61) [] = true := by kernel_rfl
end
end Go.SX.Txt
