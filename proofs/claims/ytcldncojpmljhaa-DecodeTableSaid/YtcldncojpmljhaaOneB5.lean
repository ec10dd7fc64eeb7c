/- Both readers of instructions give the same, by first bytes: part 5. -/
import Derived.Test.YtcldncojpmljhaaOneA
namespace Go.SX.One
open Go Go.SX Go.Proofs
set_option maxRecDepth 1000000
section
variable [Env]
theorem run4 : good1 (.cn (.pl (.op .mul .i64 (.nm 0 0 7) (.num 8)) (.num 4)) lsM) (.pl (.op .mul .i64 (.nm 0 0 7) (.num 8)) (.num 4)) = true := by kernel_rfl
theorem run10 : good1 (.cn (.nm 0 72 79) lsM) (.nm 0 72 79) = true := by kernel_rfl
theorem run16 : good1 (.cn (.num 105) lsM) (.num 105) = true := by kernel_rfl
theorem run22 : good1 (.cn (.num 129) lsM) (.num 129) = true := by kernel_rfl
theorem run28 : good1 (.cn (.num 135) lsM) (.num 135) = true := by kernel_rfl
theorem run34 : good1 (.cn (.num 141) lsM) (.num 141) = true := by kernel_rfl
theorem run40 : good1 (.cn (.num 153) lsM) (.num 153) = true := by kernel_rfl
theorem run46 : good1 (.cn (.num 164) lsM) (.num 164) = true := by kernel_rfl
theorem run52 : good1 (.cn (.num 170) lsM) (.num 170) = true := by kernel_rfl
theorem run58 : good1 (.cn (.nm 0 176 183) lsM) (.nm 0 176 183) = true := by kernel_rfl
theorem run64 : good1 (.cn (.nm 0 196 197) lsM) (.nm 0 196 197) = true := by kernel_rfl
theorem run70 : good1 (.cn (.num 204) lsM) (.num 204) = true := by kernel_rfl
theorem run76 : good1 (.cn (.num 232) lsM) (.num 232) = true := by kernel_rfl
theorem run82 : good1 (.cn (.num 245) lsM) (.num 245) = true := by kernel_rfl
theorem run88 : good1 (.cn (.num 252) lsM) (.num 252) = true := by kernel_rfl
theorem run94 : good1 (.cn (.num 242) lsM) (.num 242) = true := by kernel_rfl
end
end Go.SX.One
