/- Conditions' names: what cond.Name gives of each number, as a contract. -/
import Derived.Test.YtlcjkmedbgaaeaaDoorCndN
namespace Go.SX.Cnd
open Go Go.SX Go.Proofs Go.Proofs.YtlcjkmedbgaaeaaDoor
set_option maxRecDepth 1000000
set_option linter.unusedSectionVars false
theorem name0 [Env] : (callE Tryd.prog env0 cfg0 12 9 [.one (.int .i64 (.c 0))] tabR).good (leafS (nameS 0)) [] = true := by kernel_rfl
theorem name1 [Env] : (callE Tryd.prog env0 cfg0 12 9 [.one (.int .i64 (.c 1))] tabR).good (leafS (nameS 1)) [] = true := by kernel_rfl
theorem name2 [Env] : (callE Tryd.prog env0 cfg0 12 9 [.one (.int .i64 (.c 2))] tabR).good (leafS (nameS 2)) [] = true := by kernel_rfl
theorem name3 [Env] : (callE Tryd.prog env0 cfg0 12 9 [.one (.int .i64 (.c 3))] tabR).good (leafS (nameS 3)) [] = true := by kernel_rfl
end Go.SX.Cnd
