/- TextRegs: rounds. -/
import Derived.Test.YtimbamlodfohmaaDoorTxtR
namespace Go.SX.Txt
open Go Go.SX Go.Proofs
set_option maxRecDepth 1000000
set_option linter.unusedSectionVars false
theorem round4_3_0 [Env] : isOk (round4 3 (-1)) (fr4 (0), mem4) = true := by kernel_rfl
theorem round4_3_1 [Env] : isOk (round4 3 (0)) (fr4 (1), mem4) = true := by kernel_rfl
theorem round4_3_2 [Env] : isOk (round4 3 (1)) (fr4 (2), mem4) = true := by kernel_rfl
theorem round4_3_3 [Env] : isOk (round4 3 (2)) (fr4 (3), mem4) = true := by kernel_rfl
theorem round4_3_4 [Env] : isOk (round4 3 (3)) (fr4 (4), mem4) = true := by kernel_rfl
theorem round4_3_5 [Env] : isOk (round4 3 (4)) (fr4 (5), mem4) = true := by kernel_rfl
theorem round4_3_6 [Env] : isOk (round4 3 (5)) (fr4 (6), mem4) = true := by kernel_rfl
theorem round4_3_7 [Env] : isOk (round4 3 (6)) (fr4 (7), mem4) = true := by kernel_rfl
theorem round4_3_8 [Env] : isOk (round4 3 (7)) (fr4 (8), mem4) = true := by kernel_rfl
theorem round4_3_9 [Env] : isOk (round4 3 (8)) (fr4 (9), mem4) = true := by kernel_rfl
end Go.SX.Txt
