/- CondTells: rounds. -/
import Derived.Test.YtlcjkmedbgaaeaaDoorCndD
namespace Go.SX.Cnd
open Go Go.SX Go.Proofs
set_option maxRecDepth 1000000
set_option linter.unusedSectionVars false
theorem round3_0 [Env] : isOk (round3 (-1)) (fr3 (0), mem3) = true := by kernel_rfl
theorem round3_1 [Env] : isOk (round3 (0)) (fr3 (1), mem3) = true := by kernel_rfl
theorem round3_2 [Env] : isOk (round3 (1)) (fr3 (2), mem3) = true := by kernel_rfl
end Go.SX.Cnd
