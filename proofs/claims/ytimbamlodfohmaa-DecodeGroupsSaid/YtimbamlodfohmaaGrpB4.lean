/- Which operations the byte behind an opcode chooses: runs, part 4. -/
import Derived.Test.YtimbamlodfohmaaGrpA
namespace Go.SX.One
open Go Go.SX Go.Proofs
set_option maxRecDepth 1000000
section
variable [Env]
theorem grp143_0 : goodG (.cn (.num 143) (.cn (mE 0) lsM2)) (.num 143) = true := by kernel_rfl
theorem grp143_4 : goodG (.cn (.num 143) (.cn (mE 4) lsM2)) (.num 143) = true := by kernel_rfl
theorem grp193_0 : goodG (.cn (.num 193) (.cn (mE 0) lsM2)) (.num 193) = true := by kernel_rfl
theorem grp193_4 : goodG (.cn (.num 193) (.cn (mE 4) lsM2)) (.num 193) = true := by kernel_rfl
theorem grp209_0 : goodG (.cn (.num 209) (.cn (mE 0) lsM2)) (.num 209) = true := by kernel_rfl
theorem grp209_4 : goodG (.cn (.num 209) (.cn (mE 4) lsM2)) (.num 209) = true := by kernel_rfl
theorem grp211_0 : goodG (.cn (.num 211) (.cn (mE 0) lsM2)) (.num 211) = true := by kernel_rfl
theorem grp211_4 : goodG (.cn (.num 211) (.cn (mE 4) lsM2)) (.num 211) = true := by kernel_rfl
theorem grp198_0 : goodG (.cn (.num 198) (.cn (mE 0) lsM2)) (.num 198) = true := by kernel_rfl
theorem grp198_4 : goodG (.cn (.num 198) (.cn (mE 4) lsM2)) (.num 198) = true := by kernel_rfl
theorem grp199_0 : goodG (.cn (.num 199) (.cn (mE 0) lsM2)) (.num 199) = true := by kernel_rfl
theorem grp199_4 : goodG (.cn (.num 199) (.cn (mE 4) lsM2)) (.num 199) = true := by kernel_rfl
theorem grp246_0 : goodG (.cn (.num 246) (.cn (mE 0) lsM2)) (.num 246) = true := by kernel_rfl
theorem grp246_4 : goodG (.cn (.num 246) (.cn (mE 4) lsM2)) (.num 246) = true := by kernel_rfl
theorem grp247_0 : goodG (.cn (.num 247) (.cn (mE 0) lsM2)) (.num 247) = true := by kernel_rfl
theorem grp247_4 : goodG (.cn (.num 247) (.cn (mE 4) lsM2)) (.num 247) = true := by kernel_rfl
theorem grp254_0 : goodG (.cn (.num 254) (.cn (mE 0) lsM2)) (.num 254) = true := by kernel_rfl
theorem grp254_4 : goodG (.cn (.num 254) (.cn (mE 4) lsM2)) (.num 254) = true := by kernel_rfl
theorem grp255_0 : goodG (.cn (.num 255) (.cn (mE 0) lsM2)) (.num 255) = true := by kernel_rfl
theorem grp255_4 : goodG (.cn (.num 255) (.cn (mE 4) lsM2)) (.num 255) = true := by kernel_rfl
theorem grp143_n : goodG (.cn (.num 143) .nl) (.num 143) = true := by kernel_rfl
theorem grp198_n : goodG (.cn (.num 198) .nl) (.num 198) = true := by kernel_rfl
theorem grp254_n : goodG (.cn (.num 254) .nl) (.num 254) = true := by kernel_rfl
end
end Go.SX.One
