/-
  No cell of these rows narrows 'for every input' (looked for: loops, veiled, ifaces, maps, wideKeys, modest, calm, conditions, laid).
  DERIVED. THE GIVEN ROWS OF THIS SEAT. 8 by the template 'for every input the law returns true; each argument reads behind the call as it read before'; 0 by the template 'total and deterministic' (their statements: YtndcomioiakepaaTotals.lean).
  GIVEN WITH THE SEED: the statements are not yours to turn. If you find one false, say at which input.
  Laid BY PROGRAM, IN A SANDBOX (cutbox-rows.mjs): the forced cells as the released guide's own fill.sh prints them over the translation 5cb8bd177024da85… (all of the seat's roots in one cut). By AI agents, Wed Nov 11 2026. No macro, syntax, notation, axiom, sorry.
-/
import Derived.Test.YtndcomioiakepaaChecked
import GoSem.Claim
import GoSem.ClaimJoined
import GoSem.ClaimMapViews
import Derived.JoinedTies
import Derived.KernelRfl
namespace Go.Proofs.Ytndcomioiakepaa
/- THE CELL 'sum', in the pinned program and in every row, IS THE sha256 OF THE DUMP (.gsa) THAT YtndcomioiakepaaProg.lean LOADS. Nothing in Lean hashes anything: it is a label: what it is worth is what the hold of that sum in a sandbox is worth. -/
noncomputable def Try.pinned : Pinned := { name := "ytndcomioiakepaa", sum := "5cb8bd177024da85d900c5288964b91cadf352de4858f7f8c76a96bcf1ce8a2a", checked := Try.checked }
namespace Rows
def none {H : Type} : Left H := { results := [], args := [] }

/-- 'salternlaw21.ClassTells': WHATEVER THE INPUT: true; the input reads as it did. -/
def classTellsSpec : ChangeSpec := { name := "classTells", fn := fun _ => fun
  | [d1, d2, d3, d4, d5, d6] => { results := [.lit (.bool true)], args := [d1, d2, d3, d4, d5, d6] }
  | _ => none }
def classTellsRow : OpenClaim := { program := "ytndcomioiakepaa", sum := "5cb8bd177024da85d900c5288964b91cadf352de4858f7f8c76a96bcf1ce8a2a", func := "saltern/salternlaw21.ClassTells", spec := "classTells", apart := false }
def ClassTellsSaid : Prop := classTellsRow.holds Try.pinned (OpenSpec.ofChange classTellsSpec)

/-- ITS FALSE NEIGHBOUR: 'it returns false'. Refute it at one input. -/
def classTellsWrong : ChangeSpec := { name := "classTells", fn := fun _ => fun
  | [d1, d2, d3, d4, d5, d6] => { results := [.lit (.bool false)], args := [d1, d2, d3, d4, d5, d6] }
  | _ => none }
def ClassTellsWrongFalsely : Prop := classTellsRow.holds Try.pinned (OpenSpec.ofChange classTellsWrong)

/-- 'salternlaw21.ClassBytes': WHATEVER THE INPUT: true; the input reads as it did. -/
def classBytesSpec : ChangeSpec := { name := "classBytes", fn := fun _ => fun
  | [d1, d2] => { results := [.lit (.bool true)], args := [d1, d2] }
  | _ => none }
def classBytesRow : OpenClaim := { program := "ytndcomioiakepaa", sum := "5cb8bd177024da85d900c5288964b91cadf352de4858f7f8c76a96bcf1ce8a2a", func := "saltern/salternlaw21.ClassBytes", spec := "classBytes", apart := false }
def ClassBytesSaid : Prop := classBytesRow.holds Try.pinned (OpenSpec.ofChange classBytesSpec)

/-- ITS FALSE NEIGHBOUR: 'it returns false'. Refute it at one input. -/
def classBytesWrong : ChangeSpec := { name := "classBytes", fn := fun _ => fun
  | [d1, d2] => { results := [.lit (.bool false)], args := [d1, d2] }
  | _ => none }
def ClassBytesWrongFalsely : Prop := classBytesRow.holds Try.pinned (OpenSpec.ofChange classBytesWrong)

/-- 'salternlaw23.ImageBack': WHATEVER THE INPUT: true; the input reads as it did. -/
def imageBackSpec : ChangeSpec := { name := "imageBack", fn := fun _ => fun
  | [d1, d2, d3, d4, d5, d6, d7] => { results := [.lit (.bool true)], args := [d1, d2, d3, d4, d5, d6, d7] }
  | _ => none }
def imageBackRow : OpenClaim := { program := "ytndcomioiakepaa", sum := "5cb8bd177024da85d900c5288964b91cadf352de4858f7f8c76a96bcf1ce8a2a", func := "saltern/salternlaw23.ImageBack", spec := "imageBack", apart := false }
def ImageBackSaid : Prop := imageBackRow.holds Try.pinned (OpenSpec.ofChange imageBackSpec)

/-- ITS FALSE NEIGHBOUR: 'it returns false'. Refute it at one input. -/
def imageBackWrong : ChangeSpec := { name := "imageBack", fn := fun _ => fun
  | [d1, d2, d3, d4, d5, d6, d7] => { results := [.lit (.bool false)], args := [d1, d2, d3, d4, d5, d6, d7] }
  | _ => none }
def ImageBackWrongFalsely : Prop := imageBackRow.holds Try.pinned (OpenSpec.ofChange imageBackWrong)

/-- 'salternlaw23.ImageReads': WHATEVER THE INPUT: true; the input reads as it did. -/
def imageReadsSpec : ChangeSpec := { name := "imageReads", fn := fun _ => fun
  | [d1, d2, d3, d4, d5] => { results := [.lit (.bool true)], args := [d1, d2, d3, d4, d5] }
  | _ => none }
def imageReadsRow : OpenClaim := { program := "ytndcomioiakepaa", sum := "5cb8bd177024da85d900c5288964b91cadf352de4858f7f8c76a96bcf1ce8a2a", func := "saltern/salternlaw23.ImageReads", spec := "imageReads", apart := false }
def ImageReadsSaid : Prop := imageReadsRow.holds Try.pinned (OpenSpec.ofChange imageReadsSpec)

/-- ITS FALSE NEIGHBOUR: 'it returns false'. Refute it at one input. -/
def imageReadsWrong : ChangeSpec := { name := "imageReads", fn := fun _ => fun
  | [d1, d2, d3, d4, d5] => { results := [.lit (.bool false)], args := [d1, d2, d3, d4, d5] }
  | _ => none }
def ImageReadsWrongFalsely : Prop := imageReadsRow.holds Try.pinned (OpenSpec.ofChange imageReadsWrong)

/-- 'salternlaw23.ImageLimits': WHATEVER THE INPUT: true; the input reads as it did. -/
def imageLimitsSpec : ChangeSpec := { name := "imageLimits", fn := fun _ => fun
  | [d1, d2] => { results := [.lit (.bool true)], args := [d1, d2] }
  | _ => none }
def imageLimitsRow : OpenClaim := { program := "ytndcomioiakepaa", sum := "5cb8bd177024da85d900c5288964b91cadf352de4858f7f8c76a96bcf1ce8a2a", func := "saltern/salternlaw23.ImageLimits", spec := "imageLimits", apart := false }
def ImageLimitsSaid : Prop := imageLimitsRow.holds Try.pinned (OpenSpec.ofChange imageLimitsSpec)

/-- ITS FALSE NEIGHBOUR: 'it returns false'. Refute it at one input. -/
def imageLimitsWrong : ChangeSpec := { name := "imageLimits", fn := fun _ => fun
  | [d1, d2] => { results := [.lit (.bool false)], args := [d1, d2] }
  | _ => none }
def ImageLimitsWrongFalsely : Prop := imageLimitsRow.holds Try.pinned (OpenSpec.ofChange imageLimitsWrong)

/-- 'salternlaw23.ImageOrder': WHATEVER THE INPUT: true; the input reads as it did. -/
def imageOrderSpec : ChangeSpec := { name := "imageOrder", fn := fun _ => fun
  | [d1, d2, d3, d4] => { results := [.lit (.bool true)], args := [d1, d2, d3, d4] }
  | _ => none }
def imageOrderRow : OpenClaim := { program := "ytndcomioiakepaa", sum := "5cb8bd177024da85d900c5288964b91cadf352de4858f7f8c76a96bcf1ce8a2a", func := "saltern/salternlaw23.ImageOrder", spec := "imageOrder", apart := false }
def ImageOrderSaid : Prop := imageOrderRow.holds Try.pinned (OpenSpec.ofChange imageOrderSpec)

/-- ITS FALSE NEIGHBOUR: 'it returns false'. Refute it at one input. -/
def imageOrderWrong : ChangeSpec := { name := "imageOrder", fn := fun _ => fun
  | [d1, d2, d3, d4] => { results := [.lit (.bool false)], args := [d1, d2, d3, d4] }
  | _ => none }
def ImageOrderWrongFalsely : Prop := imageOrderRow.holds Try.pinned (OpenSpec.ofChange imageOrderWrong)

/-- 'salternlaw9.OperandReads': WHATEVER THE INPUT: true; the input reads as it did. -/
def operandReadsSpec : ChangeSpec := { name := "operandReads", fn := fun _ => fun
  | [d1, d2, d3, d4, d5] => { results := [.lit (.bool true)], args := [d1, d2, d3, d4, d5] }
  | _ => none }
def operandReadsRow : OpenClaim := { program := "ytndcomioiakepaa", sum := "5cb8bd177024da85d900c5288964b91cadf352de4858f7f8c76a96bcf1ce8a2a", func := "saltern/salternlaw9.OperandReads", spec := "operandReads", apart := false }
def OperandReadsSaid : Prop := operandReadsRow.holds Try.pinned (OpenSpec.ofChange operandReadsSpec)

/-- ITS FALSE NEIGHBOUR: 'it returns false'. Refute it at one input. -/
def operandReadsWrong : ChangeSpec := { name := "operandReads", fn := fun _ => fun
  | [d1, d2, d3, d4, d5] => { results := [.lit (.bool false)], args := [d1, d2, d3, d4, d5] }
  | _ => none }
def OperandReadsWrongFalsely : Prop := operandReadsRow.holds Try.pinned (OpenSpec.ofChange operandReadsWrong)

/-- 'salternlaw9.OperandWays': WHATEVER THE INPUT: true; the input reads as it did. -/
def operandWaysSpec : ChangeSpec := { name := "operandWays", fn := fun _ => fun
  | [d1, d2, d3, d4] => { results := [.lit (.bool true)], args := [d1, d2, d3, d4] }
  | _ => none }
def operandWaysRow : OpenClaim := { program := "ytndcomioiakepaa", sum := "5cb8bd177024da85d900c5288964b91cadf352de4858f7f8c76a96bcf1ce8a2a", func := "saltern/salternlaw9.OperandWays", spec := "operandWays", apart := false }
def OperandWaysSaid : Prop := operandWaysRow.holds Try.pinned (OpenSpec.ofChange operandWaysSpec)

/-- ITS FALSE NEIGHBOUR: 'it returns false'. Refute it at one input. -/
def operandWaysWrong : ChangeSpec := { name := "operandWays", fn := fun _ => fun
  | [d1, d2, d3, d4] => { results := [.lit (.bool false)], args := [d1, d2, d3, d4] }
  | _ => none }
def OperandWaysWrongFalsely : Prop := operandWaysRow.holds Try.pinned (OpenSpec.ofChange operandWaysWrong)

/- THE SECOND FORM. 'bulk': how many values and letters a reading holds, each counted each time it is reached (what is shared counts as often as it is met; a slice's spare places count too). A statement '..UptoSaid' is the law's where the arguments, and the package variables that the reading takes, are together of bulk at most 1048576: NARROWER than '..Said'. Prove '..Said' where nothing that the law and all that it calls make is longer than what came in: it says more and counts as full. Else prove '..UptoSaid'. A law counts once. -/
mutual
def uptoBulk {H : Type} : DataW H → Nat
  | .lit (.string bytes) => bytes.length + 1
  | .lit _ => 1
  | .nil => 1
  | .ptr d => uptoBulk d + 1
  | .slice elems spare => uptoBulkAll elems + uptoBulkAll spare + 1
  | .agg parts => uptoBulkAll parts + 1
  | .iface _ d => uptoBulk d + 1
  | .map entries => uptoBulkEntries entries + 1
  | .held _ => 1
def uptoBulkAll {H : Type} : List (DataW H) → Nat
  | [] => 0
  | d :: r => uptoBulk d + uptoBulkAll r
def uptoBulkEntries {H : Type} : List (Lit × DataW H) → Nat
  | [] => 0
  | x :: r => uptoBulkEntry x + uptoBulkEntries r
def uptoBulkEntry {H : Type} : Lit × DataW H → Nat
  | (.string bytes, d) => bytes.length + uptoBulk d + 1
  | (_, d) => uptoBulk d + 1
 end
def uptoSmall : (H : Type) → List (DataW H) → Bool := fun _ ds => decide (uptoBulkAll ds ≤ 1048576)
def OpenSpec.upto (s : _root_.Go.ChangeSpec) : _root_.Go.OpenSpec := { _root_.Go.OpenSpec.ofChange s with cond := some uptoSmall }

/-- 'salternlaw21.ClassTells', WHERE WHAT IT READS IS OF BULK AT MOST 1048576: true; the input reads as it did. -/
def classTellsUptoRow : OpenClaim := { program := "ytndcomioiakepaa", sum := "5cb8bd177024da85d900c5288964b91cadf352de4858f7f8c76a96bcf1ce8a2a", func := "saltern/salternlaw21.ClassTells", spec := "classTells", apart := false, narrowed := true }
def ClassTellsUptoSaid : Prop := classTellsUptoRow.holds Try.pinned (OpenSpec.upto classTellsSpec)

/-- 'salternlaw21.ClassBytes', WHERE WHAT IT READS IS OF BULK AT MOST 1048576: true; the input reads as it did. -/
def classBytesUptoRow : OpenClaim := { program := "ytndcomioiakepaa", sum := "5cb8bd177024da85d900c5288964b91cadf352de4858f7f8c76a96bcf1ce8a2a", func := "saltern/salternlaw21.ClassBytes", spec := "classBytes", apart := false, narrowed := true }
def ClassBytesUptoSaid : Prop := classBytesUptoRow.holds Try.pinned (OpenSpec.upto classBytesSpec)

/-- 'salternlaw23.ImageBack', WHERE WHAT IT READS IS OF BULK AT MOST 1048576: true; the input reads as it did. -/
def imageBackUptoRow : OpenClaim := { program := "ytndcomioiakepaa", sum := "5cb8bd177024da85d900c5288964b91cadf352de4858f7f8c76a96bcf1ce8a2a", func := "saltern/salternlaw23.ImageBack", spec := "imageBack", apart := false, narrowed := true }
def ImageBackUptoSaid : Prop := imageBackUptoRow.holds Try.pinned (OpenSpec.upto imageBackSpec)

/-- 'salternlaw23.ImageReads', WHERE WHAT IT READS IS OF BULK AT MOST 1048576: true; the input reads as it did. -/
def imageReadsUptoRow : OpenClaim := { program := "ytndcomioiakepaa", sum := "5cb8bd177024da85d900c5288964b91cadf352de4858f7f8c76a96bcf1ce8a2a", func := "saltern/salternlaw23.ImageReads", spec := "imageReads", apart := false, narrowed := true }
def ImageReadsUptoSaid : Prop := imageReadsUptoRow.holds Try.pinned (OpenSpec.upto imageReadsSpec)

/-- 'salternlaw23.ImageLimits', WHERE WHAT IT READS IS OF BULK AT MOST 1048576: true; the input reads as it did. -/
def imageLimitsUptoRow : OpenClaim := { program := "ytndcomioiakepaa", sum := "5cb8bd177024da85d900c5288964b91cadf352de4858f7f8c76a96bcf1ce8a2a", func := "saltern/salternlaw23.ImageLimits", spec := "imageLimits", apart := false, narrowed := true }
def ImageLimitsUptoSaid : Prop := imageLimitsUptoRow.holds Try.pinned (OpenSpec.upto imageLimitsSpec)

/-- 'salternlaw23.ImageOrder', WHERE WHAT IT READS IS OF BULK AT MOST 1048576: true; the input reads as it did. -/
def imageOrderUptoRow : OpenClaim := { program := "ytndcomioiakepaa", sum := "5cb8bd177024da85d900c5288964b91cadf352de4858f7f8c76a96bcf1ce8a2a", func := "saltern/salternlaw23.ImageOrder", spec := "imageOrder", apart := false, narrowed := true }
def ImageOrderUptoSaid : Prop := imageOrderUptoRow.holds Try.pinned (OpenSpec.upto imageOrderSpec)

/-- 'salternlaw9.OperandReads', WHERE WHAT IT READS IS OF BULK AT MOST 1048576: true; the input reads as it did. -/
def operandReadsUptoRow : OpenClaim := { program := "ytndcomioiakepaa", sum := "5cb8bd177024da85d900c5288964b91cadf352de4858f7f8c76a96bcf1ce8a2a", func := "saltern/salternlaw9.OperandReads", spec := "operandReads", apart := false, narrowed := true }
def OperandReadsUptoSaid : Prop := operandReadsUptoRow.holds Try.pinned (OpenSpec.upto operandReadsSpec)

/-- 'salternlaw9.OperandWays', WHERE WHAT IT READS IS OF BULK AT MOST 1048576: true; the input reads as it did. -/
def operandWaysUptoRow : OpenClaim := { program := "ytndcomioiakepaa", sum := "5cb8bd177024da85d900c5288964b91cadf352de4858f7f8c76a96bcf1ce8a2a", func := "saltern/salternlaw9.OperandWays", spec := "operandWays", apart := false, narrowed := true }
def OperandWaysUptoSaid : Prop := operandWaysUptoRow.holds Try.pinned (OpenSpec.upto operandWaysSpec)

end Rows
end Go.Proofs.Ytndcomioiakepaa
