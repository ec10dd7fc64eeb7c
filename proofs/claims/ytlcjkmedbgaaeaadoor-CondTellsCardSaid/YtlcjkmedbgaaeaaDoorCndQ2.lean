/- CondTells: rounds. -/
import Derived.Test.YtlcjkmedbgaaeaaDoorCndD
namespace Go.SX.Cnd
open Go Go.SX Go.Proofs
set_option maxRecDepth 1000000
set_option linter.unusedSectionVars false
theorem round3_6 [Env] : isOk (round3 (5)) (fr3 (6), mem3) = true := by kernel_rfl
theorem round3_7 [Env] : isOk (round3 (6)) (fr3 (7), mem3) = true := by kernel_rfl
theorem round3_8 [Env] : isOk (round3 (7)) (fr3 (8), mem3) = true := by kernel_rfl
end Go.SX.Cnd
