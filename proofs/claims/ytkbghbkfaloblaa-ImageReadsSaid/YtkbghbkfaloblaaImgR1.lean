/- ImageReads, case 1: all ways end well. -/
import Derived.Test.YtkbghbkfaloblaaImgD
namespace Go.SX.Img
open Go Go.SX Go.Proofs
set_option maxRecDepth 1000000
theorem reads1 [Env] : (callE Try.prog envR (cfgR (fsK 1)) 12 4 (argsM 200 pts4) (objsM 200 pts4)).good leafTrue (gsK 1) = true := by kernel_rfl
end Go.SX.Img
