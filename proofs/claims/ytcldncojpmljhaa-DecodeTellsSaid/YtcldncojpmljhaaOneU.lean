/- DecodeTells: true, whatever the input. -/
import Derived.Test.YtcldncojpmljhaaOneT
namespace Go.SX.One
open Go Go.SX Go.Proofs
set_option maxRecDepth 1000000
set_option linter.unusedSectionVars false
abbrev pts3 : List PT := [bytesT, .inl u8, .inl u8, .inl u3, .inl u8]
section
variable [Env]
theorem lawRun3 : (callE Try.prog envT cfg0 12 3 (argsOf pts3) (objsOf pts3)).good leafTrue [] = true := by kernel_rfl
end
theorem law3 (cvs : List CV) (h : ∃ w vs, AllV w (flatT pts3) cvs vs) : PureSem Try.prog 3 pts3 [.inl bo] cvs [.b true] :=
  law_canon (lsig := lsigs) (call := fun e => @callE e Try.prog (@envT e) cfg0 12) (fun xs ls _ => soundT xs ls 12) lsigs16 rfl (by decide) (fun e => @lawRun3 e) cvs h
end Go.SX.One
