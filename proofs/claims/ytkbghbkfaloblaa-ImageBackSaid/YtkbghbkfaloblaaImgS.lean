/- ImageBack: safe instructions: some one to ten bytes, by runs. -/
import Derived.Test.YtkbghbkfaloblaaImgC
import Derived.Test.YtkbghbkfaloblaaSxFu
namespace Go.SX.Img
open Go Go.SX Go.Proofs
set_option maxRecDepth 1000000
set_option linter.unusedSectionVars false
def safePts : List PT := [.inr [u8, u8, u8, u3]]
def safeS : LSig := ⟨27, safePts, .u8, 10, fun _ => True, 1⟩
def lsigs (j : Nat) : Option LSig := if j = 90 then some safeS else none
def shapeS (l : List Sc) : Bool := decide (1 ≤ l.length) && decide (l.length ≤ 10)
def qA (k : Int) : EB := .eq (.op .rem .u8 (.nm 1 0 255) (.num 7)) (.num k)
section
variable [Env]
noncomputable def safeRun (fs : List Fk) : Bool := (callE Try.prog env0 cfg0 12 27 (argsOf safePts) (objsOf safePts)).good (leafL .u8 shapeS) fs
theorem safe0 : safeRun ((qA 0).know true []) = true := by kernel_rfl
theorem safe1 : safeRun ((qA 1).know true []) = true := by kernel_rfl
theorem safe2 : safeRun ((qA 2).know true []) = true := by kernel_rfl
theorem safe3 : safeRun ((qA 3).know true []) = true := by kernel_rfl
end
end Go.SX.Img
