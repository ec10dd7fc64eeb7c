/- ImageReads, case 0: all ways end well. -/
import Derived.Test.YtkbghbkfaloblaaImgQ00
import Derived.Test.YtkbghbkfaloblaaImgQ01
import Derived.Test.YtkbghbkfaloblaaImgQ02
namespace Go.SX.Img
open Go Go.SX Go.Proofs
set_option maxRecDepth 1000000
set_option linter.unusedSectionVars false
section
variable [Env]
theorem told0 : (fnR Try.prog (callE Try.prog envR (cfgR (fsK 0)) 11) (cfgR (fsK 0) 4) 20 (rdsOf (sts 0)) Try.f4 (argsM 200 pts4) (objsM 200 pts4)).good leafTrue (gsK 0) = true := by kernel_rfl
end
theorem loops4_0 : loopsC ((Try.f4.body).getD .skip) = [(20, loopOf Try.prog 4 0)] := by kernel_rfl
theorem reads0 [Env] : (callE Try.prog envR (cfgR (fsK 0)) 12 4 (argsM 200 pts4) (objsM 200 pts4)).good leafTrue (gsK 0) = true := by
  have hb : ∃ c, Try.f4.body = some c := ⟨_, rfl⟩
  obtain ⟨c, hb⟩ := hb
  have hl : loopsC c = [(20, loopOf Try.prog 4 0)] := by rw [← loops4_0, hb]; rfl
  rw [callE_rounds (id := 20) (rd := rdsOf (sts 0)) (d := 11) rfl Try.func4 hb rfl]
  · exact told0
  · intro p hp _
    rw [hl, List.mem_singleton] at hp
    subst hp
    refine rdsOf_ok (sts 0) fun i p q h1 h2 => ?_
    match i, h1, h2 with
    | 0, h1, h2 => cases h1; cases h2; exact isOk_eq round00
    | 1, h1, h2 => cases h1; cases h2; exact isOk_eq round01
    | 2, h1, h2 => cases h1; cases h2; exact isOk_eq round02
    | 3, h1, h2 => cases h2
    | n + 4, h1, h2 => cases h1
end Go.SX.Img
