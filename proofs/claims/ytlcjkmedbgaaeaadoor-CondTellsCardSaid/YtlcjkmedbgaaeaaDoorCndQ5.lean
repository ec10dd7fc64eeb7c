/- CondTells: rounds. -/
import Derived.Test.YtlcjkmedbgaaeaaDoorCndD
namespace Go.SX.Cnd
open Go Go.SX Go.Proofs
set_option maxRecDepth 1000000
set_option linter.unusedSectionVars false
theorem round3_15 [Env] : isOk (round3 (14)) (fr3 (15), mem3) = true := by kernel_rfl
theorem round3_16 [Env] : isOk (round3 (15)) (fr3 (16), mem3) = true := by kernel_rfl
theorem round3_17 [Env] : isOk (round3 (16)) (fr3 (17), mem3) = true := by kernel_rfl
end Go.SX.Cnd
