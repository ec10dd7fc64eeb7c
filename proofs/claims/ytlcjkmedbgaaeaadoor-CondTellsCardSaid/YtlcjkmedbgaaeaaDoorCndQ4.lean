/- CondTells: rounds. -/
import Derived.Test.YtlcjkmedbgaaeaaDoorCndD
namespace Go.SX.Cnd
open Go Go.SX Go.Proofs
set_option maxRecDepth 1000000
set_option linter.unusedSectionVars false
theorem round3_12 [Env] : isOk (round3 (11)) (fr3 (12), mem3) = true := by kernel_rfl
theorem round3_13 [Env] : isOk (round3 (12)) (fr3 (13), mem3) = true := by kernel_rfl
theorem round3_14 [Env] : isOk (round3 (13)) (fr3 (14), mem3) = true := by kernel_rfl
end Go.SX.Cnd
