/- Operations' names: what text.Name, the document's Name give of each number. -/
import Derived.Test.YtimbamlodfohmaaDoorTxtN
namespace Go.SX.Txt
open Go Go.SX Go.Proofs
set_option maxRecDepth 1000000
set_option linter.unusedSectionVars false
section
variable [Env]
theorem nm6_0 : nmRun 6 (.c 0) (nameS 0) [] = true := by kernel_rfl
theorem nm7_0 : nmRun 7 (.c 0) (nameS 0) [] = true := by kernel_rfl
theorem nm6_4 : nmRun 6 (.c 4) (nameS 4) [] = true := by kernel_rfl
theorem nm7_4 : nmRun 7 (.c 4) (nameS 4) [] = true := by kernel_rfl
theorem nm6_8 : nmRun 6 (.c 8) (nameS 8) [] = true := by kernel_rfl
theorem nm7_8 : nmRun 7 (.c 8) (nameS 8) [] = true := by kernel_rfl
theorem nm6_12 : nmRun 6 (.c 12) (nameS 12) [] = true := by kernel_rfl
theorem nm7_12 : nmRun 7 (.c 12) (nameS 12) [] = true := by kernel_rfl
theorem nm6_16 : nmRun 6 (.c 16) (nameS 16) [] = true := by kernel_rfl
theorem nm7_16 : nmRun 7 (.c 16) (nameS 16) [] = true := by kernel_rfl
theorem nm6_20 : nmRun 6 (.c 20) (nameS 20) [] = true := by kernel_rfl
theorem nm7_20 : nmRun 7 (.c 20) (nameS 20) [] = true := by kernel_rfl
theorem nm6_24 : nmRun 6 (.c 24) (nameS 24) [] = true := by kernel_rfl
theorem nm7_24 : nmRun 7 (.c 24) (nameS 24) [] = true := by kernel_rfl
theorem nm6_28 : nmRun 6 (.c 28) (nameS 28) [] = true := by kernel_rfl
theorem nm7_28 : nmRun 7 (.c 28) (nameS 28) [] = true := by kernel_rfl
theorem nm6_32 : nmRun 6 (.c 32) (nameS 32) [] = true := by kernel_rfl
theorem nm7_32 : nmRun 7 (.c 32) (nameS 32) [] = true := by kernel_rfl
theorem nm6_36 : nmRun 6 (.c 36) (nameS 36) [] = true := by kernel_rfl
theorem nm7_36 : nmRun 7 (.c 36) (nameS 36) [] = true := by kernel_rfl
theorem nm6_40 : nmRun 6 (.c 40) (nameS 40) [] = true := by kernel_rfl
theorem nm7_40 : nmRun 7 (.c 40) (nameS 40) [] = true := by kernel_rfl
theorem nm6_44 : nmRun 6 (.c 44) (nameS 44) [] = true := by kernel_rfl
theorem nm7_44 : nmRun 7 (.c 44) (nameS 44) [] = true := by kernel_rfl
theorem nm6_48 : nmRun 6 (.c 48) (nameS 48) [] = true := by kernel_rfl
theorem nm7_48 : nmRun 7 (.c 48) (nameS 48) [] = true := by kernel_rfl
theorem nm6_52 : nmRun 6 (.c 52) (nameS 52) [] = true := by kernel_rfl
theorem nm7_52 : nmRun 7 (.c 52) (nameS 52) [] = true := by kernel_rfl
theorem nm6_56 : nmRun 6 (.c 56) (nameS 56) [] = true := by kernel_rfl
theorem nm7_56 : nmRun 7 (.c 56) (nameS 56) [] = true := by kernel_rfl
theorem nm6_60 : nmRun 6 (.c 60) (nameS 60) [] = true := by kernel_rfl
theorem nm7_60 : nmRun 7 (.c 60) (nameS 60) [] = true := by kernel_rfl
end
end Go.SX.Txt
