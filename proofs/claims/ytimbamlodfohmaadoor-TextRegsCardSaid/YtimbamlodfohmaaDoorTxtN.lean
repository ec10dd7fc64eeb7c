/- Operations' names: what text.Name, the document's Name give of each number. -/
import Derived.Test.YtimbamlodfohmaaDoorTxtA
namespace Go.SX.Txt
open Go Go.SX Go.Proofs
set_option maxRecDepth 1000000
set_option linter.unusedSectionVars false
def noName : ByteArray := ⟨#[63]⟩
def nameS (i : Nat) : ByteArray := (noName :: namesL).getD i noName
def nameOf (n : Int) : ByteArray := if n < 0 then noName else if 61 < n then noName else nameS n.toNat
section
variable [Env]
abbrev cN : E := .nm 0 (-9223372036854775808) 9223372036854775807
noncomputable abbrev nmRun (g : FuncId) (x : X) (s : ByteArray) (fs : List Fk) : Bool := (callE Tryd.prog envB cfg0 12 g [.one (.int .i64 x)] [tabR, .dead]).good (leafS s) fs
theorem lo6 : nmRun 6 (.ex cN) noName [.ge (ltD cN (.num 0))] = true := by kernel_rfl
theorem hi6 : nmRun 6 (.ex cN) noName [.ge (ltD (.num 61) cN)] = true := by kernel_rfl
theorem lo7 : nmRun 7 (.ex cN) noName [.ge (ltD cN (.num 0))] = true := by kernel_rfl
theorem hi7 : nmRun 7 (.ex cN) noName [.ge (ltD (.num 61) cN)] = true := by kernel_rfl
end
end Go.SX.Txt
