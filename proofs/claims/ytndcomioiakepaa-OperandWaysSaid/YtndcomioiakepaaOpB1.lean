/- OperandWays: some of the law's ways, each true. -/
import Derived.Test.YtndcomioiakepaaOpB
namespace Go.SX.Op
open Go Go.SX Go.Proofs
set_option maxRecDepth 1000000
set_option linter.unusedSectionVars false
section
variable [Env]
theorem w1 : ways (qa4.know true (qi4.know true (qb5.know true []))) = true := by kernel_rfl
theorem w2 : ways (qa4.know true (qi4.know true (qb5.know false []))) = true := by kernel_rfl
end
end Go.SX.Op
