/- ImageBack: a round of the pieces' loop, by kinds. -/
import Derived.Test.YtkbghbkfaloblaaImgV
namespace Go.SX.Img
open Go Go.SX Go.Proofs
set_option maxRecDepth 1000000
set_option linter.unusedSectionVars false
theorem code0 [Env] : codeRun ((kQ 9).know false ((kQ 8).know false ((kQ 7).know false ((kQ 6).know false ((kQ 5).know false (knows codeL.inv)))))) = true := by kernel_rfl
theorem code5 [Env] : codeRun ((kQ 5).know true (knows codeL.inv)) = true := by kernel_rfl
theorem code7 [Env] : codeRun ((kQ 7).know true (knows codeL.inv)) = true := by kernel_rfl
theorem code9 [Env] : codeRun ((kQ 9).know true (knows codeL.inv)) = true := by kernel_rfl
end Go.SX.Img
