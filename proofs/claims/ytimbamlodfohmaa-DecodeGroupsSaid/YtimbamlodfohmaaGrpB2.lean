/- Which operations the byte behind an opcode chooses: runs, part 2. -/
import Derived.Test.YtimbamlodfohmaaGrpA
namespace Go.SX.One
open Go Go.SX Go.Proofs
set_option maxRecDepth 1000000
section
variable [Env]
theorem grp129_r : goodG (.cn (.num 129) lsM) (.num 129) = true := by kernel_rfl
theorem grp143_2 : goodG (.cn (.num 143) (.cn (mE 2) lsM2)) (.num 143) = true := by kernel_rfl
theorem grp143_6 : goodG (.cn (.num 143) (.cn (mE 6) lsM2)) (.num 143) = true := by kernel_rfl
theorem grp193_2 : goodG (.cn (.num 193) (.cn (mE 2) lsM2)) (.num 193) = true := by kernel_rfl
theorem grp193_6 : goodG (.cn (.num 193) (.cn (mE 6) lsM2)) (.num 193) = true := by kernel_rfl
theorem grp209_2 : goodG (.cn (.num 209) (.cn (mE 2) lsM2)) (.num 209) = true := by kernel_rfl
theorem grp209_6 : goodG (.cn (.num 209) (.cn (mE 6) lsM2)) (.num 209) = true := by kernel_rfl
theorem grp211_2 : goodG (.cn (.num 211) (.cn (mE 2) lsM2)) (.num 211) = true := by kernel_rfl
theorem grp211_6 : goodG (.cn (.num 211) (.cn (mE 6) lsM2)) (.num 211) = true := by kernel_rfl
theorem grp198_2 : goodG (.cn (.num 198) (.cn (mE 2) lsM2)) (.num 198) = true := by kernel_rfl
theorem grp198_6 : goodG (.cn (.num 198) (.cn (mE 6) lsM2)) (.num 198) = true := by kernel_rfl
theorem grp199_2 : goodG (.cn (.num 199) (.cn (mE 2) lsM2)) (.num 199) = true := by kernel_rfl
theorem grp199_6 : goodG (.cn (.num 199) (.cn (mE 6) lsM2)) (.num 199) = true := by kernel_rfl
theorem grp246_2 : goodG (.cn (.num 246) (.cn (mE 2) lsM2)) (.num 246) = true := by kernel_rfl
theorem grp246_6 : goodG (.cn (.num 246) (.cn (mE 6) lsM2)) (.num 246) = true := by kernel_rfl
theorem grp247_2 : goodG (.cn (.num 247) (.cn (mE 2) lsM2)) (.num 247) = true := by kernel_rfl
theorem grp247_6 : goodG (.cn (.num 247) (.cn (mE 6) lsM2)) (.num 247) = true := by kernel_rfl
theorem grp254_2 : goodG (.cn (.num 254) (.cn (mE 2) lsM2)) (.num 254) = true := by kernel_rfl
theorem grp254_6 : goodG (.cn (.num 254) (.cn (mE 6) lsM2)) (.num 254) = true := by kernel_rfl
theorem grp255_2 : goodG (.cn (.num 255) (.cn (mE 2) lsM2)) (.num 255) = true := by kernel_rfl
theorem grp255_6 : goodG (.cn (.num 255) (.cn (mE 6) lsM2)) (.num 255) = true := by kernel_rfl
theorem grp209_n : goodG (.cn (.num 209) .nl) (.num 209) = true := by kernel_rfl
theorem grp246_n : goodG (.cn (.num 246) .nl) (.num 246) = true := by kernel_rfl
end
end Go.SX.One
