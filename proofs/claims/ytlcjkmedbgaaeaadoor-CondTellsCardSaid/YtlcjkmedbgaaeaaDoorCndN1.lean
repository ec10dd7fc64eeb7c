/- Conditions' names: what cond.Name gives of each number, as a contract. -/
import Derived.Test.YtlcjkmedbgaaeaaDoorCndN
namespace Go.SX.Cnd
open Go Go.SX Go.Proofs Go.Proofs.YtlcjkmedbgaaeaaDoor
set_option maxRecDepth 1000000
set_option linter.unusedSectionVars false
theorem name4 [Env] : (callE Tryd.prog env0 cfg0 12 9 [.one (.int .i64 (.c 4))] tabR).good (leafS (nameS 4)) [] = true := by kernel_rfl
theorem name5 [Env] : (callE Tryd.prog env0 cfg0 12 9 [.one (.int .i64 (.c 5))] tabR).good (leafS (nameS 5)) [] = true := by kernel_rfl
theorem name6 [Env] : (callE Tryd.prog env0 cfg0 12 9 [.one (.int .i64 (.c 6))] tabR).good (leafS (nameS 6)) [] = true := by kernel_rfl
theorem name7 [Env] : (callE Tryd.prog env0 cfg0 12 9 [.one (.int .i64 (.c 7))] tabR).good (leafS (nameS 7)) [] = true := by kernel_rfl
end Go.SX.Cnd
