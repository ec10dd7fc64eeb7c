/- Conditions' names: what cond.Name gives of each number, as a contract. -/
import Derived.Test.YtlcjkmedbgaaeaaDoorCndN
namespace Go.SX.Cnd
open Go Go.SX Go.Proofs Go.Proofs.YtlcjkmedbgaaeaaDoor
set_option maxRecDepth 1000000
set_option linter.unusedSectionVars false
theorem name8 [Env] : (callE Tryd.prog env0 cfg0 12 9 [.one (.int .i64 (.c 8))] tabR).good (leafS (nameS 8)) [] = true := by kernel_rfl
theorem name9 [Env] : (callE Tryd.prog env0 cfg0 12 9 [.one (.int .i64 (.c 9))] tabR).good (leafS (nameS 9)) [] = true := by kernel_rfl
theorem name10 [Env] : (callE Tryd.prog env0 cfg0 12 9 [.one (.int .i64 (.c 10))] tabR).good (leafS (nameS 10)) [] = true := by kernel_rfl
theorem name11 [Env] : (callE Tryd.prog env0 cfg0 12 9 [.one (.int .i64 (.c 11))] tabR).good (leafS (nameS 11)) [] = true := by kernel_rfl
end Go.SX.Cnd
