/- CondTells: the rounds of its loop, and the states at its head. -/
import Derived.Test.YtlcjkmedbgaaeaaDoorCndM
import Derived.Test.YtlcjkmedbgaaeaaDoorGxP
namespace Go.SX.Cnd
open Go Go.SX Go.Proofs
set_option maxRecDepth 1000000
set_option linter.unusedSectionVars false
abbrev flagsS : List Sc := [.bool (.ex (.eq (.nm 1 0 1) (.num 1))), .bool (.ex (.eq (.nm 2 0 1) (.num 1))), .bool (.ex (.eq (.nm 3 0 1) (.num 1))), .bool (.ex (.eq (.nm 4 0 1) (.num 1))), .bool (.ex (.eq (.nm 5 0 1) (.num 1))), .bool (.ex (.eq (.nm 6 0 1) (.num 1)))]
abbrev cE : E := .nm 0 (-9223372036854775808) 9223372036854775807
/-- the frame at the loop's head -/
def fr3 (k : Int) : Fr := ((((⟨40, F.fresh 6⟩ : Fr).set 5 (.one (.int .i64 (.c k)))).set 3 (.one (.ptr 1 (.c 0) 1 0 0))).set 0 (.one (.int .i64 (.ex cE)))).set 4 (.one (.bool (.c false)))
def mem3 : St := [.row false 1 (.vals tab), .row true 1 (.vals flagsS)]
def sts3 : List (Fr × St) := (List.range 19).map fun i : Nat => (fr3 ((i : Int) - 1), mem3)
/-- what is known of c = j -/
def gsJ (j : Int) : List Fk := [.eq (eqD cE (.num j)), .eq (eqD (.op .rem .i64 cE (.num 2)) (.num (j % 2))), .eq (eqD (.op .quo .i64 cE (.num 2)) (.num (j / 2))), .eq (eqD (.op .and .i64 cE (.num 1)) (.num (j % 2))), .eq (eqD (.op .shr .i64 cE (.num 1)) (.num (j / 2)))]
section
variable [Env]
def envN : FuncId → Option (List AV → St → Out (AV × St)) := fun g => if g = 9 then some nameCon else none
def cfgT : FuncId → Cfg := fun g => if g = 3 then { lm := fun id => id = 4, lv := fun id => if id = 4 then some [5, 3, 0, 4] else none } else if g = 8 then { mg := true } else {}
/-- a round of the law's loop -/
noncomputable def round3 (k : Int) : Out (Ex × Fr × St) :=
  roundM (bif (cfgT 3).lm 4 then some (cfgT 3).fs else none) (tidy (cfgT 3) 1 4) (codeE Tryd.prog (callE Tryd.prog envN cfgT 11) (cfgT 3) 1 (loopOf Tryd.prog 3 0) (fr3 k) mem3)
end
end Go.SX.Cnd
