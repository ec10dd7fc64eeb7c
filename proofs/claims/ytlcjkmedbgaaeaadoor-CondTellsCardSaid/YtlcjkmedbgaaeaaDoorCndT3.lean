/- CondTells: all ways end well, its rounds as told. -/
import Derived.Test.YtlcjkmedbgaaeaaDoorCndD
namespace Go.SX.Cnd
open Go Go.SX Go.Proofs
set_option maxRecDepth 1000000
set_option linter.unusedSectionVars false
theorem told3_9 [Env] : (fnR Tryd.prog (callE Tryd.prog envN cfgT 11) (cfgT 3) 4 (rdsOf sts3) Tryd.f3 [.one (.int .i64 (.ex cE)), .agg flagsS] [.row false 1 (.vals tab)]).good leafG (gsJ 9) = true := by kernel_rfl
theorem told3_10 [Env] : (fnR Tryd.prog (callE Tryd.prog envN cfgT 11) (cfgT 3) 4 (rdsOf sts3) Tryd.f3 [.one (.int .i64 (.ex cE)), .agg flagsS] [.row false 1 (.vals tab)]).good leafG (gsJ 10) = true := by kernel_rfl
theorem told3_11 [Env] : (fnR Tryd.prog (callE Tryd.prog envN cfgT 11) (cfgT 3) 4 (rdsOf sts3) Tryd.f3 [.one (.int .i64 (.ex cE)), .agg flagsS] [.row false 1 (.vals tab)]).good leafG (gsJ 11) = true := by kernel_rfl
end Go.SX.Cnd
