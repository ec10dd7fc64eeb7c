/- Both readers of instructions give the same, by first bytes: part 4. -/
import Derived.Test.YtcldncojpmljhaaOneA
namespace Go.SX.One
open Go Go.SX Go.Proofs
set_option maxRecDepth 1000000
section
variable [Env]
theorem run3 : good1 (.cn (.pl (.op .mul .i64 (.nm 0 0 7) (.num 8)) (.num 3)) lsM) (.pl (.op .mul .i64 (.nm 0 0 7) (.num 8)) (.num 3)) = true := by kernel_rfl
theorem run9 : good1 (.cn (.nm 0 64 71) lsM) (.nm 0 64 71) = true := by kernel_rfl
theorem run15 : good1 (.cn (.num 104) lsM) (.num 104) = true := by kernel_rfl
theorem run21 : good1 (.cn (.num 128) lsM) (.num 128) = true := by kernel_rfl
theorem run27 : good1 (.cn (.num 134) lsM) (.num 134) = true := by kernel_rfl
theorem run33 : good1 (.cn (.num 140) lsM) (.num 140) = true := by kernel_rfl
theorem run39 : good1 (.cn (.num 152) lsM) (.num 152) = true := by kernel_rfl
theorem run45 : good1 (.cn (.num 163) lsM) (.num 163) = true := by kernel_rfl
theorem run51 : good1 (.cn (.num 169) lsM) (.num 169) = true := by kernel_rfl
theorem run57 : good1 (.cn (.num 175) lsM) (.num 175) = true := by kernel_rfl
theorem run63 : good1 (.cn (.num 195) lsM) (.num 195) = true := by kernel_rfl
theorem run69 : good1 (.cn (.nm 0 202 203) lsM) (.nm 0 202 203) = true := by kernel_rfl
theorem run75 : good1 (.cn (.nm 0 212 231) lsM) (.nm 0 212 231) = true := by kernel_rfl
theorem run81 : good1 (.cn (.num 244) lsM) (.num 244) = true := by kernel_rfl
theorem run87 : good1 (.cn (.nm 0 250 251) lsM) (.nm 0 250 251) = true := by kernel_rfl
theorem run93 : good1 (.cn (.num 102) lsM) (.num 102) = true := by kernel_rfl
end
end Go.SX.One
