/- Operations' names: what text.Name, the document's Name give of each number. -/
import Derived.Test.YtimbamlodfohmaaDoorTxtN
namespace Go.SX.Txt
open Go Go.SX Go.Proofs
set_option maxRecDepth 1000000
set_option linter.unusedSectionVars false
section
variable [Env]
theorem nm6_3 : nmRun 6 (.c 3) (nameS 3) [] = true := by kernel_rfl
theorem nm7_3 : nmRun 7 (.c 3) (nameS 3) [] = true := by kernel_rfl
theorem nm6_7 : nmRun 6 (.c 7) (nameS 7) [] = true := by kernel_rfl
theorem nm7_7 : nmRun 7 (.c 7) (nameS 7) [] = true := by kernel_rfl
theorem nm6_11 : nmRun 6 (.c 11) (nameS 11) [] = true := by kernel_rfl
theorem nm7_11 : nmRun 7 (.c 11) (nameS 11) [] = true := by kernel_rfl
theorem nm6_15 : nmRun 6 (.c 15) (nameS 15) [] = true := by kernel_rfl
theorem nm7_15 : nmRun 7 (.c 15) (nameS 15) [] = true := by kernel_rfl
theorem nm6_19 : nmRun 6 (.c 19) (nameS 19) [] = true := by kernel_rfl
theorem nm7_19 : nmRun 7 (.c 19) (nameS 19) [] = true := by kernel_rfl
theorem nm6_23 : nmRun 6 (.c 23) (nameS 23) [] = true := by kernel_rfl
theorem nm7_23 : nmRun 7 (.c 23) (nameS 23) [] = true := by kernel_rfl
theorem nm6_27 : nmRun 6 (.c 27) (nameS 27) [] = true := by kernel_rfl
theorem nm7_27 : nmRun 7 (.c 27) (nameS 27) [] = true := by kernel_rfl
theorem nm6_31 : nmRun 6 (.c 31) (nameS 31) [] = true := by kernel_rfl
theorem nm7_31 : nmRun 7 (.c 31) (nameS 31) [] = true := by kernel_rfl
theorem nm6_35 : nmRun 6 (.c 35) (nameS 35) [] = true := by kernel_rfl
theorem nm7_35 : nmRun 7 (.c 35) (nameS 35) [] = true := by kernel_rfl
theorem nm6_39 : nmRun 6 (.c 39) (nameS 39) [] = true := by kernel_rfl
theorem nm7_39 : nmRun 7 (.c 39) (nameS 39) [] = true := by kernel_rfl
theorem nm6_43 : nmRun 6 (.c 43) (nameS 43) [] = true := by kernel_rfl
theorem nm7_43 : nmRun 7 (.c 43) (nameS 43) [] = true := by kernel_rfl
theorem nm6_47 : nmRun 6 (.c 47) (nameS 47) [] = true := by kernel_rfl
theorem nm7_47 : nmRun 7 (.c 47) (nameS 47) [] = true := by kernel_rfl
theorem nm6_51 : nmRun 6 (.c 51) (nameS 51) [] = true := by kernel_rfl
theorem nm7_51 : nmRun 7 (.c 51) (nameS 51) [] = true := by kernel_rfl
theorem nm6_55 : nmRun 6 (.c 55) (nameS 55) [] = true := by kernel_rfl
theorem nm7_55 : nmRun 7 (.c 55) (nameS 55) [] = true := by kernel_rfl
theorem nm6_59 : nmRun 6 (.c 59) (nameS 59) [] = true := by kernel_rfl
theorem nm7_59 : nmRun 7 (.c 59) (nameS 59) [] = true := by kernel_rfl
end
end Go.SX.Txt
