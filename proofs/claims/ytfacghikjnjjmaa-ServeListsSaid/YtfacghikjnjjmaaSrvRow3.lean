/- ServeLists: whatever the input, the law returns true, and its arguments read as before. No condition. -/
import Derived.Test.YtfacghikjnjjmaaRows
import Derived.Test.YtfacghikjnjjmaaSrvB
import Derived.ProofKit
import Derived.SizedLaws
namespace Go.Proofs.Ytfacghikjnjjmaa
open Go.ChangeShapes Go.WideShapes Go.ChangeAt Go.RowKit

theorem Try.own : ownKnob Try.prog.godebug = none := by kernel_rfl

set_option maxRecDepth 100000 in
theorem serveLists_lifted (os : Os) (started : os.Started) (H : Type) (enc : TypeId × Value → H) :
    ReturnsInHanded {} Try.checked os 3 .any (Rows.serveListsSpec.pre6 enc Try.prog Try.f3 Rows.serveListsRow.domain false) (Rows.serveListsSpec.post enc Try.prog Try.f3 false true false false) := by
  refine returnsInHanded_of_change_sized (C := Try.checked) Try.own started (by kernel_rfl) Try.func3
    (ChangeSpec.witness6 (enc := enc) (C := Try.checked) false ⟨#[], #[.agg #[.slice none 0 0, .slice none 0 0, .slice none 0 0], .slice none 0 0], []⟩ 8 (by kernel_rfl) (by kernel_rfl) (by kernel_rfl) (by kernel_rfl)) ?_
  intro W base args ds gs before hval0 hW hcnd hsz _
  refine SX.law_postW (pts := SX.Srv.ptsL) (by kernel_rfl) (by kernel_rfl) rfl rfl Try.underlying4
    (fun ds h => match ds, h with | [_, _], _ => ⟨rfl, rfl, rfl⟩) (fun cvs k1 k2 k3 => ?_) hval0 hW
  have hs := SX.Srv.first_len (R := reachBytes) k1 k2 fun v vs xs a len cap e hv hx => by
    obtain ⟨p, q, hA, _, _⟩ := hW
    rw [e] at hA
    exact SX.fst_len (us := Rows.serveListsSpec.plain.varTypes Try.checked.prog) Try.underlying25 rfl rfl (by kernel_rfl) Try.underlying22 (by kernel_rfl) hA hsz hv hx
  exact (SX.Srv.law3 cvs ⟨W, _, k2⟩ k3 hs W args k1 k2).mono fun e W' he => by
    obtain ⟨val, rfl, ⟨_, _, h3⟩, hcalm⟩ := he
    obtain ⟨⟨x, hx, rfl⟩, _⟩ := h3
    cases hx
    exact ⟨rfl, hcalm⟩

theorem serveLists_holds : Rows.ServeListsSaid :=
  OpenClaim.holds_of_wide 3 Try.f3 rfl rfl rfl rfl rfl rfl rfl ⟨rfl, rfl, rfl, rfl, rfl⟩ rfl rfl rfl rfl rfl (by kernel_rfl) Try.func3 (by kernel_rfl)
    (of_decide_eq_true (by kernel_rfl)) (by unfold Func.isWrapper; first | (rw [if_pos (by decide +kernel)]; kernel_rfl) | (rw [if_neg (by decide +kernel)]; exact ⟨rfl, rfl⟩))
    (fun os started H enc _ => serveLists_lifted os started H enc)

end Go.Proofs.Ytfacghikjnjjmaa
