/- ClassTells: the bytes of an instruction's kind: a beginning, twelve bytes. -/
import Derived.Test.YtndcomioiakepaaTelC
namespace Go.SX.Tel
open Go Go.SX Go.Proofs Go.SX.Op
set_option maxRecDepth 1000000
set_option linter.unusedSectionVars false
def bRps : List Rp := [.n (.ex (.nm 0 0 255)), .n (.ex (.nm 1 0 255)), .n (.ex (.nm 2 0 4294967295))]
def q4 : EB := .eq (.op .rem .u32 (.nm 2 0 4294967295) (.num 4)) (.num 0)
section
variable [Env]
noncomputable def bytesRun (fs : List Fk) : Bool := (callE Try.prog env0 cfg0 12 13 (splitA [.inl u8, .inl u8, .inl u3] (rpCells (flatT [.inl u8, .inl u8, .inl u3]) bRps 0)) (rpObjs (flatT [.inl u8, .inl u8, .inl u3]) bRps)).good (leafL .u8 shapeB) fs
theorem bytes0 : bytesRun (q4.know true []) = true := by kernel_rfl
theorem bytes1 : bytesRun (q4.know false []) = true := by kernel_rfl
end
end Go.SX.Tel
