/- Both readers of instructions give the same, by first bytes: part 1. -/
import Derived.Test.YtcldncojpmljhaaOneA
namespace Go.SX.One
open Go Go.SX Go.Proofs
set_option maxRecDepth 1000000
section
variable [Env]
theorem run0 : good1 (.cn (.pl (.op .mul .i64 (.nm 0 0 7) (.num 8)) (.num 0)) lsM) (.pl (.op .mul .i64 (.nm 0 0 7) (.num 8)) (.num 0)) = true := by kernel_rfl
theorem run6 : good1 (.cn (.pl (.op .mul .i64 (.nm 0 0 7) (.num 8)) (.num 6)) lsM) (.pl (.op .mul .i64 (.nm 0 0 7) (.num 8)) (.num 6)) = true := by kernel_rfl
theorem run12 : good1 (.cn (.nm 0 88 95) lsM) (.nm 0 88 95) = true := by kernel_rfl
theorem run18 : good1 (.cn (.num 107) lsM) (.num 107) = true := by kernel_rfl
theorem run24 : good1 (.cn (.num 131) lsM) (.num 131) = true := by kernel_rfl
theorem run30 : good1 (.cn (.num 137) lsM) (.num 137) = true := by kernel_rfl
theorem run36 : good1 (.cn (.num 143) lsM) (.num 143) = true := by kernel_rfl
theorem run42 : good1 (.cn (.num 160) lsM) (.num 160) = true := by kernel_rfl
theorem run48 : good1 (.cn (.num 166) lsM) (.num 166) = true := by kernel_rfl
theorem run54 : good1 (.cn (.num 172) lsM) (.num 172) = true := by kernel_rfl
theorem run60 : good1 (.cn (.num 192) lsM) (.num 192) = true := by kernel_rfl
theorem run66 : good1 (.cn (.num 199) lsM) (.num 199) = true := by kernel_rfl
theorem run72 : good1 (.cn (.num 209) lsM) (.num 209) = true := by kernel_rfl
theorem run78 : good1 (.cn (.num 234) lsM) (.num 234) = true := by kernel_rfl
theorem run84 : good1 (.cn (.num 247) lsM) (.num 247) = true := by kernel_rfl
theorem run90 : good1 (.cn (.num 254) lsM) (.num 254) = true := by kernel_rfl
end
end Go.SX.One
