/- Conditions' names: what cond.Name gives of each number, as a contract. -/
import Derived.Test.YtlcjkmedbgaaeaaDoorCndN
namespace Go.SX.Cnd
open Go Go.SX Go.Proofs Go.Proofs.YtlcjkmedbgaaeaaDoor
set_option maxRecDepth 1000000
set_option linter.unusedSectionVars false
theorem name12 [Env] : (callE Tryd.prog env0 cfg0 12 9 [.one (.int .i64 (.c 12))] tabR).good (leafS (nameS 12)) [] = true := by kernel_rfl
theorem name13 [Env] : (callE Tryd.prog env0 cfg0 12 9 [.one (.int .i64 (.c 13))] tabR).good (leafS (nameS 13)) [] = true := by kernel_rfl
theorem name14 [Env] : (callE Tryd.prog env0 cfg0 12 9 [.one (.int .i64 (.c 14))] tabR).good (leafS (nameS 14)) [] = true := by kernel_rfl
theorem name15 [Env] : (callE Tryd.prog env0 cfg0 12 9 [.one (.int .i64 (.c 15))] tabR).good (leafS (nameS 15)) [] = true := by kernel_rfl
theorem nameLo [Env] : (callE Tryd.prog env0 cfg0 12 9 [.one (.int .i64 (.ex cN))] tabR).good (leafS noName) [.ge (ltD cN (.num 0))] = true := by kernel_rfl
theorem nameHi [Env] : (callE Tryd.prog env0 cfg0 12 9 [.one (.int .i64 (.ex cN))] tabR).good (leafS noName) [.ge (ltD (.num 15) cN)] = true := by kernel_rfl
end Go.SX.Cnd
