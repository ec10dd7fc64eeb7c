/- ImageOrder: whatever the input, the law returns true, and its arguments read as before. No condition. -/
import Derived.Test.YtkbghbkfaloblaaRows
import Derived.Test.YtkbghbkfaloblaaImgA
import Derived.ProofKit
namespace Go.Proofs.Ytkbghbkfaloblaa
open Go.ChangeShapes Go.WideShapes Go.ChangeAt Go.RowKit

theorem Try.own : ownKnob Try.prog.godebug = none := by kernel_rfl

set_option maxRecDepth 100000 in
theorem imageOrder_lifted (os : Os) (started : os.Started) (H : Type) (enc : TypeId × Value → H) :
    ReturnsInHanded {} Try.checked os 6 .any (Rows.imageOrderSpec.pre6 enc Try.prog Try.f6 Rows.imageOrderRow.domain false) (Rows.imageOrderSpec.post enc Try.prog Try.f6 false true false false) := by
  refine returnsInHanded_of_change (C := Try.checked) Try.own started (by kernel_rfl) Try.func6
    (ChangeSpec.witness6 (enc := enc) (C := Try.checked) false ⟨#[], #[.slice none 0 0, .slice none 0 0, .int .u16 0, .int .u8 0], []⟩ 8 (by kernel_rfl) (by kernel_rfl) (by kernel_rfl) (by kernel_rfl)) ?_
  intro W base args ds gs before hval0 hW hcnd _
  exact SX.law_post (pts := SX.Img.pts6) (by kernel_rfl) (by kernel_rfl) rfl rfl Try.underlying4
    (fun ds h => match ds, h with | [_, _, _, _], _ => ⟨rfl, rfl, rfl⟩) SX.Img.law6 hval0 hW

theorem imageOrder_holds : Rows.ImageOrderSaid :=
  OpenClaim.holds_of_wide 6 Try.f6 rfl rfl rfl rfl rfl rfl rfl ⟨rfl, rfl, rfl, rfl, rfl⟩ rfl rfl rfl rfl rfl (by kernel_rfl) Try.func6 (by kernel_rfl)
    (of_decide_eq_true (by kernel_rfl)) (by unfold Func.isWrapper; first | (rw [if_pos (by decide +kernel)]; kernel_rfl) | (rw [if_neg (by decide +kernel)]; exact ⟨rfl, rfl⟩))
    (fun os started H enc _ => imageOrder_lifted os started H enc)

end Go.Proofs.Ytkbghbkfaloblaa
