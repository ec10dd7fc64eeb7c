/- ImageBack: a round of the pieces' loop, by kinds. -/
import Derived.Test.YtkbghbkfaloblaaImgV
namespace Go.SX.Img
open Go Go.SX Go.Proofs
set_option maxRecDepth 1000000
set_option linter.unusedSectionVars false
theorem code6 [Env] : codeRun ((kQ 6).know true (knows codeL.inv)) = true := by kernel_rfl
theorem code8 [Env] : codeRun ((kQ 8).know true (knows codeL.inv)) = true := by kernel_rfl
end Go.SX.Img
