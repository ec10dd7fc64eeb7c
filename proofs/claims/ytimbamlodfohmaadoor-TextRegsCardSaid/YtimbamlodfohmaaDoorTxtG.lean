/- Registers' names: runs. -/
import Derived.Test.YtimbamlodfohmaaDoorTxtN
namespace Go.SX.Txt
open Go Go.SX Go.Proofs
set_option maxRecDepth 1000000
set_option linter.unusedSectionVars false
def fullS : ByteArray := ⟨#[101, 97, 120, 32, 101, 99, 120, 32, 101, 100, 120, 32, 101, 98, 120, 32, 101, 115, 112, 32, 101, 98, 112, 32, 101, 115, 105, 32, 101, 100, 105]⟩
def lowsS : ByteArray := ⟨#[97, 108, 32, 99, 108, 32, 100, 108, 32, 98, 108, 32, 97, 104, 32, 99, 104, 32, 100, 104, 32, 98, 104]⟩
section
variable [Env]
noncomputable abbrev rgRun (l : ByteArray) (x : X) (s : ByteArray) (fs : List Fk) : Bool := (callE Tryd.prog envB cfg0 12 14 [.one (.str l), .one (.int .i64 x)] [tabR, .dead]).good (leafS s) fs
theorem rlo0 : rgRun fullS (.ex cN) noName [.ge (ltD cN (.num 0))] = true := by kernel_rfl
theorem rhi0 : rgRun fullS (.ex cN) noName [.ge (ltD (.num 7) cN)] = true := by kernel_rfl
theorem rlo1 : rgRun lowsS (.ex cN) noName [.ge (ltD cN (.num 0))] = true := by kernel_rfl
theorem rhi1 : rgRun lowsS (.ex cN) noName [.ge (ltD (.num 7) cN)] = true := by kernel_rfl
theorem rgF0 : rgRun fullS (.c 0) (fullL.getD 0 noName) [] = true := by kernel_rfl
theorem rgL0 : rgRun lowsS (.c 0) (lowsL.getD 0 noName) [] = true := by kernel_rfl
theorem rgD0 : nmRun 20 (.c 0) (fullL.getD 0 noName) [] = true := by kernel_rfl
theorem rgF1 : rgRun fullS (.c 1) (fullL.getD 1 noName) [] = true := by kernel_rfl
theorem rgL1 : rgRun lowsS (.c 1) (lowsL.getD 1 noName) [] = true := by kernel_rfl
theorem rgD1 : nmRun 20 (.c 1) (fullL.getD 1 noName) [] = true := by kernel_rfl
theorem rgF2 : rgRun fullS (.c 2) (fullL.getD 2 noName) [] = true := by kernel_rfl
theorem rgL2 : rgRun lowsS (.c 2) (lowsL.getD 2 noName) [] = true := by kernel_rfl
theorem rgD2 : nmRun 20 (.c 2) (fullL.getD 2 noName) [] = true := by kernel_rfl
theorem rgF3 : rgRun fullS (.c 3) (fullL.getD 3 noName) [] = true := by kernel_rfl
theorem rgL3 : rgRun lowsS (.c 3) (lowsL.getD 3 noName) [] = true := by kernel_rfl
theorem rgD3 : nmRun 20 (.c 3) (fullL.getD 3 noName) [] = true := by kernel_rfl
theorem rgF4 : rgRun fullS (.c 4) (fullL.getD 4 noName) [] = true := by kernel_rfl
theorem rgL4 : rgRun lowsS (.c 4) (lowsL.getD 4 noName) [] = true := by kernel_rfl
theorem rgD4 : nmRun 20 (.c 4) (fullL.getD 4 noName) [] = true := by kernel_rfl
theorem rgF5 : rgRun fullS (.c 5) (fullL.getD 5 noName) [] = true := by kernel_rfl
theorem rgL5 : rgRun lowsS (.c 5) (lowsL.getD 5 noName) [] = true := by kernel_rfl
theorem rgD5 : nmRun 20 (.c 5) (fullL.getD 5 noName) [] = true := by kernel_rfl
theorem rgF6 : rgRun fullS (.c 6) (fullL.getD 6 noName) [] = true := by kernel_rfl
theorem rgL6 : rgRun lowsS (.c 6) (lowsL.getD 6 noName) [] = true := by kernel_rfl
theorem rgD6 : nmRun 20 (.c 6) (fullL.getD 6 noName) [] = true := by kernel_rfl
theorem rgF7 : rgRun fullS (.c 7) (fullL.getD 7 noName) [] = true := by kernel_rfl
theorem rgL7 : rgRun lowsS (.c 7) (lowsL.getD 7 noName) [] = true := by kernel_rfl
theorem rgD7 : nmRun 20 (.c 7) (fullL.getD 7 noName) [] = true := by kernel_rfl
theorem rgF (i : Nat) (h : i < 8) : rgRun fullS (.c (i : Int)) (fullL.getD i noName) [] = true := by
  match i, h with
  | 0, _ => exact rgF0
  | 1, _ => exact rgF1
  | 2, _ => exact rgF2
  | 3, _ => exact rgF3
  | 4, _ => exact rgF4
  | 5, _ => exact rgF5
  | 6, _ => exact rgF6
  | 7, _ => exact rgF7
  | n + 8, h => omega
theorem rgL (i : Nat) (h : i < 8) : rgRun lowsS (.c (i : Int)) (lowsL.getD i noName) [] = true := by
  match i, h with
  | 0, _ => exact rgL0
  | 1, _ => exact rgL1
  | 2, _ => exact rgL2
  | 3, _ => exact rgL3
  | 4, _ => exact rgL4
  | 5, _ => exact rgL5
  | 6, _ => exact rgL6
  | 7, _ => exact rgL7
  | n + 8, h => omega
theorem rgD (i : Nat) (h : i < 8) : nmRun 20 (.c (i : Int)) (fullL.getD i noName) [] = true := by
  match i, h with
  | 0, _ => exact rgD0
  | 1, _ => exact rgD1
  | 2, _ => exact rgD2
  | 3, _ => exact rgD3
  | 4, _ => exact rgD4
  | 5, _ => exact rgD5
  | 6, _ => exact rgD6
  | 7, _ => exact rgD7
  | n + 8, h => omega
end
end Go.SX.Txt
