/- Both readers of instructions give the same, by first bytes: part 3. -/
import Derived.Test.YtcldncojpmljhaaOneA
namespace Go.SX.One
open Go Go.SX Go.Proofs
set_option maxRecDepth 1000000
section
variable [Env]
theorem run2 : good1 (.cn (.pl (.op .mul .i64 (.nm 0 0 7) (.num 8)) (.num 2)) lsM) (.pl (.op .mul .i64 (.nm 0 0 7) (.num 8)) (.num 2)) = true := by kernel_rfl
theorem run8 : good1 (.cn (.pl (.op .mul .i64 (.nm 0 2 7) (.num 8)) (.num 7)) lsM) (.pl (.op .mul .i64 (.nm 0 2 7) (.num 8)) (.num 7)) = true := by kernel_rfl
theorem run14 : good1 (.cn (.num 103) lsM) (.num 103) = true := by kernel_rfl
theorem run20 : good1 (.cn (.nm 0 112 127) lsM) (.nm 0 112 127) = true := by kernel_rfl
theorem run26 : good1 (.cn (.num 133) lsM) (.num 133) = true := by kernel_rfl
theorem run32 : good1 (.cn (.num 139) lsM) (.num 139) = true := by kernel_rfl
theorem run38 : good1 (.cn (.nm 0 145 151) lsM) (.nm 0 145 151) = true := by kernel_rfl
theorem run44 : good1 (.cn (.num 162) lsM) (.num 162) = true := by kernel_rfl
theorem run50 : good1 (.cn (.num 168) lsM) (.num 168) = true := by kernel_rfl
theorem run56 : good1 (.cn (.num 174) lsM) (.num 174) = true := by kernel_rfl
theorem run62 : good1 (.cn (.num 194) lsM) (.num 194) = true := by kernel_rfl
theorem run68 : good1 (.cn (.num 201) lsM) (.num 201) = true := by kernel_rfl
theorem run74 : good1 (.cn (.num 211) lsM) (.num 211) = true := by kernel_rfl
theorem run80 : good1 (.cn (.nm 0 236 241) lsM) (.nm 0 236 241) = true := by kernel_rfl
theorem run86 : good1 (.cn (.num 249) lsM) (.num 249) = true := by kernel_rfl
theorem run92 : good1 (.cn (.num 15) lsM) (.num 15) = true := by kernel_rfl
end
end Go.SX.One
