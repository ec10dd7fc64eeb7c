/- CondTells: rounds. -/
import Derived.Test.YtlcjkmedbgaaeaaDoorCndD
namespace Go.SX.Cnd
open Go Go.SX Go.Proofs
set_option maxRecDepth 1000000
set_option linter.unusedSectionVars false
theorem round3_9 [Env] : isOk (round3 (8)) (fr3 (9), mem3) = true := by kernel_rfl
theorem round3_10 [Env] : isOk (round3 (9)) (fr3 (10), mem3) = true := by kernel_rfl
theorem round3_11 [Env] : isOk (round3 (10)) (fr3 (11), mem3) = true := by kernel_rfl
end Go.SX.Cnd
