/- TextRegs: the rounds of its loop, and the states at its head. -/
import Derived.Test.YtimbamlodfohmaaDoorTxtZ
import Derived.Test.YtimbamlodfohmaaDoorTxtD
import Derived.Test.YtimbamlodfohmaaDoorGxP
namespace Go.SX.Txt
open Go Go.SX Go.Proofs
set_option maxRecDepth 1000000
set_option linter.unusedSectionVars false
def rE : E := .nm 0 (-9223372036854775808) 9223372036854775807
def zE : E := .nm 1 (-9223372036854775808) 9223372036854775807
def dE : E := .nm 2 0 4294967295
/-- what is known of the size -/
def szF : Nat → List Fk
  | 0 => [.eq (eqD zE (.num 1))]
  | 1 => [.eq (eqD zE (.num 2))]
  | 2 => [.eq (eqD zE (.num 4))]
  | 3 => [.eq (eqD zE (.num 8))]
  | _ => [.ne (eqD zE (.num 1)), .ne (eqD zE (.num 2)), .ne (eqD zE (.num 4)), .ne (eqD zE (.num 8))]
/-- the frame at the loop's head -/
def fr4 (k : Int) : Fr := (((((⟨49, F.fresh 6⟩ : Fr).set 7 (.one (.int .i64 (.c k)))).set 0 (.one (.int .i64 (.ex rE)))).set 1 (.one (.int .i64 (.ex zE)))).set 2 (.one (.int .u32 (.ex dE)))).set 6 (.one (.bool (.c false)))
def mem4 : St := [tabR, dbtR]
def sts4 : List (Fr × St) := (List.range 11).map fun i : Nat => (fr4 ((i : Int) - 1), mem4)
section
variable [Env]
def envR : FuncId → Option (List AV → St → Out (AV × St)) := fun g => if g = 5 then some knownCon else if g = 12 then some (fieldsCon fldsL) else if g = 14 then some regCon else if g = 16 then some (hexCon [48, 120]) else if g = 19 then some (hexCon []) else if g = 20 then some reg32Con else if g = 37 then some joinCon else none
def cfgR (j : Nat) : FuncId → Cfg := fun g => if g = 4 then { lm := fun id => id == 4 || id == 7, lv := fun id => if id = 4 then some [7, 0, 1, 2, 6] else if id = 7 then some [37, 36, 35, 0, 1, 2, 6, 7] else none, fs := szF j } else {}
/-- a round of the law's loop -/
noncomputable def round4 (j : Nat) (k : Int) : Out (Ex × Fr × St) :=
  roundM (bif (cfgR j 4).lm 4 then some (cfgR j 4).fs else none) (tidy (cfgR j 4) 2 4) (codeE Tryd.prog (callE Tryd.prog envR (cfgR j) 11) (cfgR j 4) 2 (loopOf Tryd.prog 4 0) (fr4 k) mem4)
end
end Go.SX.Txt
