/- OperandReads: whatever the bytes, the law returns true, and its arguments read as before. No condition. -/
import Derived.Test.YtndcomioiakepaaRows
import Derived.Test.YtndcomioiakepaaOpA
import Derived.ProofKit
namespace Go.Proofs.Ytndcomioiakepaa
open Go.ChangeShapes Go.WideShapes Go.ChangeAt Go.RowKit

theorem Try.own : ownKnob Try.prog.godebug = none := by kernel_rfl

set_option maxRecDepth 100000 in
theorem operandReads_lifted (os : Os) (started : os.Started) (H : Type) (enc : TypeId × Value → H) :
    ReturnsInHanded {} Try.checked os 9 .any (Rows.operandReadsSpec.pre6 enc Try.prog Try.f9 Rows.operandReadsRow.domain false) (Rows.operandReadsSpec.post enc Try.prog Try.f9 false true false false) := by
  refine returnsInHanded_of_change (C := Try.checked) Try.own started (by kernel_rfl) Try.func9
    (ChangeSpec.witness6 (enc := enc) (C := Try.checked) false ⟨#[], #[.slice none 0 0, .int .u8 0, .int .u8 0, .int .u32 0, .int .u8 0], []⟩ 8 (by kernel_rfl) (by kernel_rfl) (by kernel_rfl) (by kernel_rfl)) ?_
  intro W base args ds gs before hval0 hW hcnd _
  exact SX.law_post (pts := [SX.Op.bytesT, .inl SX.Op.u8, .inl SX.Op.u8, .inl SX.Op.u3, .inl SX.Op.u8]) (by kernel_rfl) (by kernel_rfl) rfl rfl Try.underlying4
    (fun ds h => match ds, h with | [_, _, _, _, _], _ => ⟨rfl, rfl, rfl⟩) SX.Op.law9 hval0 hW

theorem operandReads_holds : Rows.OperandReadsSaid :=
  OpenClaim.holds_of_wide 9 Try.f9 rfl rfl rfl rfl rfl rfl rfl ⟨rfl, rfl, rfl, rfl, rfl⟩ rfl rfl rfl rfl rfl (by kernel_rfl) Try.func9 (by kernel_rfl)
    (of_decide_eq_true (by kernel_rfl)) (by unfold Func.isWrapper; first | (rw [if_pos (by decide +kernel)]; kernel_rfl) | (rw [if_neg (by decide +kernel)]; exact ⟨rfl, rfl⟩))
    (fun os started H enc _ => operandReads_lifted os started H enc)

end Go.Proofs.Ytndcomioiakepaa
