/- Both readers of instructions give the same, by first bytes: part 6. -/
import Derived.Test.YtcldncojpmljhaaOneA
namespace Go.SX.One
open Go Go.SX Go.Proofs
set_option maxRecDepth 1000000
section
variable [Env]
theorem run5 : good1 (.cn (.pl (.op .mul .i64 (.nm 0 0 7) (.num 8)) (.num 5)) lsM) (.pl (.op .mul .i64 (.nm 0 0 7) (.num 8)) (.num 5)) = true := by kernel_rfl
theorem run11 : good1 (.cn (.nm 0 80 87) lsM) (.nm 0 80 87) = true := by kernel_rfl
theorem run17 : good1 (.cn (.num 106) lsM) (.num 106) = true := by kernel_rfl
theorem run23 : good1 (.cn (.num 130) lsM) (.num 130) = true := by kernel_rfl
theorem run29 : good1 (.cn (.num 136) lsM) (.num 136) = true := by kernel_rfl
theorem run35 : good1 (.cn (.num 142) lsM) (.num 142) = true := by kernel_rfl
theorem run41 : good1 (.cn (.nm 0 154 159) lsM) (.nm 0 154 159) = true := by kernel_rfl
theorem run47 : good1 (.cn (.num 165) lsM) (.num 165) = true := by kernel_rfl
theorem run53 : good1 (.cn (.num 171) lsM) (.num 171) = true := by kernel_rfl
theorem run59 : good1 (.cn (.nm 0 184 191) lsM) (.nm 0 184 191) = true := by kernel_rfl
theorem run65 : good1 (.cn (.num 198) lsM) (.num 198) = true := by kernel_rfl
theorem run71 : good1 (.cn (.nm 0 205 208) lsM) (.nm 0 205 208) = true := by kernel_rfl
theorem run77 : good1 (.cn (.num 233) lsM) (.num 233) = true := by kernel_rfl
theorem run83 : good1 (.cn (.num 246) lsM) (.num 246) = true := by kernel_rfl
theorem run89 : good1 (.cn (.num 253) lsM) (.num 253) = true := by kernel_rfl
theorem run95 : good1 (.cn (.num 243) lsM) (.num 243) = true := by kernel_rfl
end
end Go.SX.One
