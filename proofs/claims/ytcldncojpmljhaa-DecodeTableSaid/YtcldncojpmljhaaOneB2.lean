/- Both readers of instructions give the same, by first bytes: part 2. -/
import Derived.Test.YtcldncojpmljhaaOneA
namespace Go.SX.One
open Go Go.SX Go.Proofs
set_option maxRecDepth 1000000
section
variable [Env]
theorem run1 : good1 (.cn (.pl (.op .mul .i64 (.nm 0 0 7) (.num 8)) (.num 1)) lsM) (.pl (.op .mul .i64 (.nm 0 0 7) (.num 8)) (.num 1)) = true := by kernel_rfl
theorem run7 : good1 (.cn (.num 7) lsM) (.num 7) = true := by kernel_rfl
theorem run13 : good1 (.cn (.nm 0 96 101) lsM) (.nm 0 96 101) = true := by kernel_rfl
theorem run19 : good1 (.cn (.nm 0 108 111) lsM) (.nm 0 108 111) = true := by kernel_rfl
theorem run25 : good1 (.cn (.num 132) lsM) (.num 132) = true := by kernel_rfl
theorem run31 : good1 (.cn (.num 138) lsM) (.num 138) = true := by kernel_rfl
theorem run37 : good1 (.cn (.num 144) lsM) (.num 144) = true := by kernel_rfl
theorem run43 : good1 (.cn (.num 161) lsM) (.num 161) = true := by kernel_rfl
theorem run49 : good1 (.cn (.num 167) lsM) (.num 167) = true := by kernel_rfl
theorem run55 : good1 (.cn (.num 173) lsM) (.num 173) = true := by kernel_rfl
theorem run61 : good1 (.cn (.num 193) lsM) (.num 193) = true := by kernel_rfl
theorem run67 : good1 (.cn (.num 200) lsM) (.num 200) = true := by kernel_rfl
theorem run73 : good1 (.cn (.num 210) lsM) (.num 210) = true := by kernel_rfl
theorem run79 : good1 (.cn (.num 235) lsM) (.num 235) = true := by kernel_rfl
theorem run85 : good1 (.cn (.num 248) lsM) (.num 248) = true := by kernel_rfl
theorem run91 : good1 (.cn (.num 255) lsM) (.num 255) = true := by kernel_rfl
end
end Go.SX.One
