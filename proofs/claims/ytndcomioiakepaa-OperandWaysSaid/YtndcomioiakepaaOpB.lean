/- OperandWays: the law's ways, by the parts of its bytes: what is run. -/
import Derived.Test.YtndcomioiakepaaOpA
namespace Go.SX.Op
open Go Go.SX Go.Proofs
set_option maxRecDepth 1000000
set_option linter.unusedSectionVars false
/-- the byte's parts by which its ways are told -/
def qa4 : EB := .eq (.op .and .u8 (.nm 0 0 255) (.num 7)) (.num 4)
def qa5 : EB := .eq (.op .and .u8 (.nm 0 0 255) (.num 7)) (.num 5)
def qi4 : EB := .eq (.op .and .u8 (.op .shr .u8 (.nm 1 0 255) (.num 3)) (.num 7)) (.num 4)
def qs (n : Int) : EB := .lt (.op .shr .u8 (.nm 1 0 255) (.num 6)) (.num n)
def qb5 : EB := .eq (.op .and .u8 (.nm 1 0 255) (.num 7)) (.num 5)
section
variable [Env]
def envW : FuncId → Option Con := fun g => if g = 29 then some (pCon [] [.inl bo] (fun _ => .c true) fun _ => [.b (.c true)]) else none
theorem envOkW : EnvOk Try.prog envW cfg0 := by
  refine ⟨names, fun g c h => ?_, fun g fn c σ _ _ _ => LoopsOk.none (fun _ => rfl) c⟩
  unfold envW at h
  split at h
  · rename_i e; subst e; cases h
    exact pCon_sound ⟨_, Try.func29, rfl⟩ rfl known_sem
  · cases h
noncomputable def ways (fs : List Fk) : Bool := (callE Try.prog envW cfg0 12 10 (splitA [.inl u8, .inl u8, .inl u3, .inl u8] (rpCells (flatT [.inl u8, .inl u8, .inl u3, .inl u8]) [byteN 0, byteN 1, wordN 2, byteN 3] 0)) (rpObjs (flatT [.inl u8, .inl u8, .inl u3, .inl u8]) [byteN 0, byteN 1, wordN 2, byteN 3])).good leafTrue fs
end
end Go.SX.Op
