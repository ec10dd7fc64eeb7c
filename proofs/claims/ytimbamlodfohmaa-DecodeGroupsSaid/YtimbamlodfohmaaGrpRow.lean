/- DecodeGroups: whatever the input, the law returns true, and its arguments read as before. No condition. -/
import Derived.Test.YtimbamlodfohmaaRows
import Derived.Test.YtimbamlodfohmaaGrpD
import Derived.ProofKit
namespace Go.Proofs.Ytimbamlodfohmaa
open Go.ChangeShapes Go.WideShapes Go.ChangeAt Go.RowKit

theorem Try.own : ownKnob Try.prog.godebug = none := by kernel_rfl

set_option maxRecDepth 100000 in
theorem decodeGroups_lifted (os : Os) (started : os.Started) (H : Type) (enc : TypeId × Value → H) :
    ReturnsInHanded {} Try.checked os 8 .any (Rows.decodeGroupsSpec.pre6 enc Try.prog Try.f8 Rows.decodeGroupsRow.domain false) (Rows.decodeGroupsSpec.post enc Try.prog Try.f8 false true false false) := by
  refine returnsInHanded_of_change (C := Try.checked) Try.own started (by kernel_rfl) Try.func8
    (ChangeSpec.witness6 (enc := enc) (C := Try.checked) false ⟨#[], #[.int .u8 0, .int .u32 0], []⟩ 8 (by kernel_rfl) (by kernel_rfl) (by kernel_rfl) (by kernel_rfl)) ?_
  intro W base args ds gs before hval0 hW hcnd _
  exact SX.law_post (pts := SX.One.pts8) (by kernel_rfl) (by kernel_rfl) rfl rfl Try.underlying4
    (fun ds h => match ds, h with | [_, _], _ => ⟨rfl, rfl, rfl⟩) SX.One.law8 hval0 hW

theorem decodeGroups_holds : Rows.DecodeGroupsSaid :=
  OpenClaim.holds_of_wide 8 Try.f8 rfl rfl rfl rfl rfl rfl rfl ⟨rfl, rfl, rfl, rfl, rfl⟩ rfl rfl rfl rfl rfl (by kernel_rfl) Try.func8 (by kernel_rfl)
    (of_decide_eq_true (by kernel_rfl)) (by unfold Func.isWrapper; first | (rw [if_pos (by decide +kernel)]; kernel_rfl) | (rw [if_neg (by decide +kernel)]; exact ⟨rfl, rfl⟩))
    (fun os started H enc _ => decodeGroups_lifted os started H enc)

end Go.Proofs.Ytimbamlodfohmaa
