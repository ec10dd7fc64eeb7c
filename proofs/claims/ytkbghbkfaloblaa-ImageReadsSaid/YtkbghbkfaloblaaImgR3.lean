/- ImageReads, case 3: all ways end well. -/
import Derived.Test.YtkbghbkfaloblaaImgQ30
import Derived.Test.YtkbghbkfaloblaaImgQ31
import Derived.Test.YtkbghbkfaloblaaImgQ32
namespace Go.SX.Img
open Go Go.SX Go.Proofs
set_option maxRecDepth 1000000
set_option linter.unusedSectionVars false
section
variable [Env]
theorem told3 : (fnR Try.prog (callE Try.prog envR (cfgR (fsK 3)) 11) (cfgR (fsK 3) 4) 20 (rdsOf (sts 3)) Try.f4 (argsM 200 pts4) (objsM 200 pts4)).good leafTrue (gsK 3) = true := by kernel_rfl
end
theorem loops4_3 : loopsC ((Try.f4.body).getD .skip) = [(20, loopOf Try.prog 4 0)] := by kernel_rfl
theorem reads3 [Env] : (callE Try.prog envR (cfgR (fsK 3)) 12 4 (argsM 200 pts4) (objsM 200 pts4)).good leafTrue (gsK 3) = true := by
  have hb : ∃ c, Try.f4.body = some c := ⟨_, rfl⟩
  obtain ⟨c, hb⟩ := hb
  have hl : loopsC c = [(20, loopOf Try.prog 4 0)] := by rw [← loops4_3, hb]; rfl
  rw [callE_rounds (id := 20) (rd := rdsOf (sts 3)) (d := 11) rfl Try.func4 hb rfl]
  · exact told3
  · intro p hp _
    rw [hl, List.mem_singleton] at hp
    subst hp
    refine rdsOf_ok (sts 3) fun i p q h1 h2 => ?_
    match i, h1, h2 with
    | 0, h1, h2 => cases h1; cases h2; exact isOk_eq round30
    | 1, h1, h2 => cases h1; cases h2; exact isOk_eq round31
    | 2, h1, h2 => cases h1; cases h2; exact isOk_eq round32
    | 3, h1, h2 => cases h2
    | n + 4, h1, h2 => cases h1
end Go.SX.Img
