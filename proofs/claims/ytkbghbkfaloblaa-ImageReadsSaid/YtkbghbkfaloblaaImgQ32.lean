/- ImageReads, case 3: round 2. -/
import Derived.Test.YtkbghbkfaloblaaImgF
import Derived.Test.YtkbghbkfaloblaaSxP
namespace Go.SX.Img
open Go Go.SX Go.Proofs
set_option maxRecDepth 1000000
set_option linter.unusedSectionVars false
theorem round32 [Env] : isOk (roundK 3 2) (fr4 3, mem4 3) = true := by kernel_rfl
end Go.SX.Img
