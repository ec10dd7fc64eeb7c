/- ImageReads, case 0: round 0. -/
import Derived.Test.YtkbghbkfaloblaaImgF
import Derived.Test.YtkbghbkfaloblaaSxP
namespace Go.SX.Img
open Go Go.SX Go.Proofs
set_option maxRecDepth 1000000
set_option linter.unusedSectionVars false
theorem round00 [Env] : isOk (roundK 0 0) (fr4 1, mem4 0) = true := by kernel_rfl
end Go.SX.Img
