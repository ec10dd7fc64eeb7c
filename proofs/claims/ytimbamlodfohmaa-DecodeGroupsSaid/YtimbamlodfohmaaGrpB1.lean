/- Which operations the byte behind an opcode chooses: runs, part 1. -/
import Derived.Test.YtimbamlodfohmaaGrpA
namespace Go.SX.One
open Go Go.SX Go.Proofs
set_option maxRecDepth 1000000
section
variable [Env]
theorem grp128_r : goodG (.cn (.num 128) lsM) (.num 128) = true := by kernel_rfl
theorem grp143_1 : goodG (.cn (.num 143) (.cn (mE 1) lsM2)) (.num 143) = true := by kernel_rfl
theorem grp143_5 : goodG (.cn (.num 143) (.cn (mE 5) lsM2)) (.num 143) = true := by kernel_rfl
theorem grp193_1 : goodG (.cn (.num 193) (.cn (mE 1) lsM2)) (.num 193) = true := by kernel_rfl
theorem grp193_5 : goodG (.cn (.num 193) (.cn (mE 5) lsM2)) (.num 193) = true := by kernel_rfl
theorem grp209_1 : goodG (.cn (.num 209) (.cn (mE 1) lsM2)) (.num 209) = true := by kernel_rfl
theorem grp209_5 : goodG (.cn (.num 209) (.cn (mE 5) lsM2)) (.num 209) = true := by kernel_rfl
theorem grp211_1 : goodG (.cn (.num 211) (.cn (mE 1) lsM2)) (.num 211) = true := by kernel_rfl
theorem grp211_5 : goodG (.cn (.num 211) (.cn (mE 5) lsM2)) (.num 211) = true := by kernel_rfl
theorem grp198_1 : goodG (.cn (.num 198) (.cn (mE 1) lsM2)) (.num 198) = true := by kernel_rfl
theorem grp198_5 : goodG (.cn (.num 198) (.cn (mE 5) lsM2)) (.num 198) = true := by kernel_rfl
theorem grp199_1 : goodG (.cn (.num 199) (.cn (mE 1) lsM2)) (.num 199) = true := by kernel_rfl
theorem grp199_5 : goodG (.cn (.num 199) (.cn (mE 5) lsM2)) (.num 199) = true := by kernel_rfl
theorem grp246_1 : goodG (.cn (.num 246) (.cn (mE 1) lsM2)) (.num 246) = true := by kernel_rfl
theorem grp246_5 : goodG (.cn (.num 246) (.cn (mE 5) lsM2)) (.num 246) = true := by kernel_rfl
theorem grp247_1 : goodG (.cn (.num 247) (.cn (mE 1) lsM2)) (.num 247) = true := by kernel_rfl
theorem grp247_5 : goodG (.cn (.num 247) (.cn (mE 5) lsM2)) (.num 247) = true := by kernel_rfl
theorem grp254_1 : goodG (.cn (.num 254) (.cn (mE 1) lsM2)) (.num 254) = true := by kernel_rfl
theorem grp254_5 : goodG (.cn (.num 254) (.cn (mE 5) lsM2)) (.num 254) = true := by kernel_rfl
theorem grp255_1 : goodG (.cn (.num 255) (.cn (mE 1) lsM2)) (.num 255) = true := by kernel_rfl
theorem grp255_5 : goodG (.cn (.num 255) (.cn (mE 5) lsM2)) (.num 255) = true := by kernel_rfl
theorem grp193_n : goodG (.cn (.num 193) .nl) (.num 193) = true := by kernel_rfl
theorem grp199_n : goodG (.cn (.num 199) .nl) (.num 199) = true := by kernel_rfl
theorem grp255_n : goodG (.cn (.num 255) .nl) (.num 255) = true := by kernel_rfl
end
end Go.SX.One
