/- CondTells: rounds. -/
import Derived.Test.YtlcjkmedbgaaeaaDoorCndD
namespace Go.SX.Cnd
open Go Go.SX Go.Proofs
set_option maxRecDepth 1000000
set_option linter.unusedSectionVars false
theorem round3_3 [Env] : isOk (round3 (2)) (fr3 (3), mem3) = true := by kernel_rfl
theorem round3_4 [Env] : isOk (round3 (3)) (fr3 (4), mem3) = true := by kernel_rfl
theorem round3_5 [Env] : isOk (round3 (4)) (fr3 (5), mem3) = true := by kernel_rfl
end Go.SX.Cnd
