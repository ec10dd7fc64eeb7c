/- ImageReads: the states at the head of its loop. -/
import Derived.Test.YtkbghbkfaloblaaImgD
import Derived.Test.YtkbghbkfaloblaaSxP
namespace Go.SX.Img
open Go Go.SX Go.Proofs
set_option maxRecDepth 1000000
set_option linter.unusedSectionVars false
abbrev lenB : X := .ex (.pl (.pl (.num 30) (.ln l1E)) (.num 4))
abbrev lenG3 : X := .ex (.pl m3 (.num 4))
/-- the frame at the loop's head -/
def fr4 (i : Int) : Fr := ((((⟨146, F.fresh 8⟩ : Fr).set 115 (.one (.int .i64 (.c i)))).set 114 (.one (.int .i64 (.c 3)))).set 113 (.one (.sl true 2 (.c 0) (.c 3) 1))).set 10 (.one (.bool (.c false)))
def memOf4 (nn : Bool) (l : X) (e : E) : St := [.row false 1 (.ex (.int .u8) (.ls 0 .nl 0 255 200)), .row false 1 (.ex (.int .u8) l1E),
  .row true 1 (.vals [.sl false 0 (.c 0) (.ex (.ln (.ls 0 .nl 0 255 200))) 1, .sl true 3 (.c 0) lenB 1, .sl nn 4 (.c 0) l 1]), .row true 1 (.ex (.int .u8) bE), .row true 1 (.ex (.int .u8) e)]
def mem4 : Nat → St
  | 0 => memOf4 false lenB n78
  | _ => memOf4 true lenG3 n79
def sts (k : Nat) : List (Fr × St) := [(fr4 0, mem4 k), (fr4 1, mem4 k), (fr4 2, mem4 k), (fr4 3, mem4 k)]
/-- a round of the law's loop -/
noncomputable def roundK [Env] (k : Nat) (i : Int) : Out (Ex × Fr × St) :=
  roundM (bif (cfgR (fsK k) 4).lm 20 then some (cfgR (fsK k) 4).fs else none) (tidy (cfgR (fsK k) 4) 2 20) (codeE Try.prog (callE Try.prog envR (cfgR (fsK k)) 11) (cfgR (fsK k) 4) 2 (loopOf Try.prog 4 0) (fr4 i) (mem4 k))
end Go.SX.Img
