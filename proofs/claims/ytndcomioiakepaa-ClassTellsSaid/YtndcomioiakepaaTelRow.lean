/- ClassTells: whatever the instruction and the numbers, the law returns true, and its arguments read as before. No condition. -/
import Derived.Test.YtndcomioiakepaaRows
import Derived.Test.YtndcomioiakepaaTelF
import Derived.ProofKit
namespace Go.Proofs.Ytndcomioiakepaa
open Go.ChangeShapes Go.WideShapes Go.ChangeAt Go.RowKit

theorem Try.own : ownKnob Try.prog.godebug = none := by kernel_rfl

set_option maxRecDepth 100000 in
theorem classTells_lifted (os : Os) (started : os.Started) (H : Type) (enc : TypeId × Value → H) :
    ReturnsInHanded {} Try.checked os 3 .any (Rows.classTellsSpec.pre6 enc Try.prog Try.f3 Rows.classTellsRow.domain false) (Rows.classTellsSpec.post enc Try.prog Try.f3 false true false false) := by
  refine returnsInHanded_of_change (C := Try.checked) Try.own started (by kernel_rfl) Try.func3
    (ChangeSpec.witness6 (enc := enc) (C := Try.checked) false ⟨#[], #[.agg #[.int .i64 0, .int .i64 0, .int .i64 0, .int .i64 0, .int .i64 0, .int .i64 0, .int .i64 0, .int .i64 0, .int .u32 0, .int .i64 0, .int .i64 0, .int .i64 0, .int .i64 0, .int .i64 0, .int .u32 0, .int .u32 0, .bool false, .int .i64 0], .int .u8 0, .int .u8 0, .int .u8 0, .int .u8 0, .int .u32 0], []⟩ 8 (by kernel_rfl) (by kernel_rfl) (by kernel_rfl) (by kernel_rfl)) ?_
  intro W base args ds gs before hval0 hW hcnd _
  exact SX.law_post (pts := SX.Tel.ptsL) (by kernel_rfl) (by kernel_rfl) rfl rfl Try.underlying4
    (fun ds h => match ds, h with | [_, _, _, _, _, _], _ => ⟨rfl, rfl, rfl⟩) SX.Tel.law3 hval0 hW

theorem classTells_holds : Rows.ClassTellsSaid :=
  OpenClaim.holds_of_wide 3 Try.f3 rfl rfl rfl rfl rfl rfl rfl ⟨rfl, rfl, rfl, rfl, rfl⟩ rfl rfl rfl rfl rfl (by kernel_rfl) Try.func3 (by kernel_rfl)
    (of_decide_eq_true (by kernel_rfl)) (by unfold Func.isWrapper; first | (rw [if_pos (by decide +kernel)]; kernel_rfl) | (rw [if_neg (by decide +kernel)]; exact ⟨rfl, rfl⟩))
    (fun os started H enc _ => classTells_lifted os started H enc)

end Go.Proofs.Ytndcomioiakepaa
