/- Which operations the byte behind an opcode chooses: runs, part 3. -/
import Derived.Test.YtimbamlodfohmaaGrpA
namespace Go.SX.One
open Go Go.SX Go.Proofs
set_option maxRecDepth 1000000
section
variable [Env]
theorem grp131_r : goodG (.cn (.num 131) lsM) (.num 131) = true := by kernel_rfl
theorem grp143_3 : goodG (.cn (.num 143) (.cn (mE 3) lsM2)) (.num 143) = true := by kernel_rfl
theorem grp143_7 : goodG (.cn (.num 143) (.cn (mE 7) lsM2)) (.num 143) = true := by kernel_rfl
theorem grp193_3 : goodG (.cn (.num 193) (.cn (mE 3) lsM2)) (.num 193) = true := by kernel_rfl
theorem grp193_7 : goodG (.cn (.num 193) (.cn (mE 7) lsM2)) (.num 193) = true := by kernel_rfl
theorem grp209_3 : goodG (.cn (.num 209) (.cn (mE 3) lsM2)) (.num 209) = true := by kernel_rfl
theorem grp209_7 : goodG (.cn (.num 209) (.cn (mE 7) lsM2)) (.num 209) = true := by kernel_rfl
theorem grp211_3 : goodG (.cn (.num 211) (.cn (mE 3) lsM2)) (.num 211) = true := by kernel_rfl
theorem grp211_7 : goodG (.cn (.num 211) (.cn (mE 7) lsM2)) (.num 211) = true := by kernel_rfl
theorem grp198_3 : goodG (.cn (.num 198) (.cn (mE 3) lsM2)) (.num 198) = true := by kernel_rfl
theorem grp198_7 : goodG (.cn (.num 198) (.cn (mE 7) lsM2)) (.num 198) = true := by kernel_rfl
theorem grp199_3 : goodG (.cn (.num 199) (.cn (mE 3) lsM2)) (.num 199) = true := by kernel_rfl
theorem grp199_7 : goodG (.cn (.num 199) (.cn (mE 7) lsM2)) (.num 199) = true := by kernel_rfl
theorem grp246_3 : goodG (.cn (.num 246) (.cn (mE 3) lsM2)) (.num 246) = true := by kernel_rfl
theorem grp246_7 : goodG (.cn (.num 246) (.cn (mE 7) lsM2)) (.num 246) = true := by kernel_rfl
theorem grp247_3 : goodG (.cn (.num 247) (.cn (mE 3) lsM2)) (.num 247) = true := by kernel_rfl
theorem grp247_7 : goodG (.cn (.num 247) (.cn (mE 7) lsM2)) (.num 247) = true := by kernel_rfl
theorem grp254_3 : goodG (.cn (.num 254) (.cn (mE 3) lsM2)) (.num 254) = true := by kernel_rfl
theorem grp254_7 : goodG (.cn (.num 254) (.cn (mE 7) lsM2)) (.num 254) = true := by kernel_rfl
theorem grp255_3 : goodG (.cn (.num 255) (.cn (mE 3) lsM2)) (.num 255) = true := by kernel_rfl
theorem grp255_7 : goodG (.cn (.num 255) (.cn (mE 7) lsM2)) (.num 255) = true := by kernel_rfl
theorem grp211_n : goodG (.cn (.num 211) .nl) (.num 211) = true := by kernel_rfl
theorem grp247_n : goodG (.cn (.num 247) .nl) (.num 247) = true := by kernel_rfl
end
end Go.SX.One
