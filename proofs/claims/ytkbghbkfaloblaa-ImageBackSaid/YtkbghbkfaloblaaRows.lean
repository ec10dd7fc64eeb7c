/-
  No cell of these rows narrows 'for every input' (looked for: loops, veiled, ifaces, maps, wideKeys, modest, calm, conditions, laid).
  DERIVED. THE GIVEN ROWS OF THIS SEAT. 4 by the template 'for every input the law returns true; each argument reads behind the call as it read before'; 0 by the template 'total and deterministic' (their statements: YtkbghbkfaloblaaTotals.lean).
  GIVEN WITH THE SEED: the statements are not yours to turn. If you find one false, say at which input.
  Laid BY PROGRAM, IN A SANDBOX (cutbox-rows.mjs): the forced cells as the released guide's own fill.sh prints them over the translation 15e6b2cb0c6d5e8c… (all of the seat's roots in one cut). By AI agents, Wed Nov 11 2026. No macro, syntax, notation, axiom, sorry.
-/
import Derived.Test.YtkbghbkfaloblaaChecked
import GoSem.Claim
import GoSem.ClaimJoined
import GoSem.ClaimMapViews
import Derived.JoinedTies
import Derived.KernelRfl
namespace Go.Proofs.Ytkbghbkfaloblaa
/- THE CELL 'sum', in the pinned program and in every row, IS THE sha256 OF THE DUMP (.gsa) THAT YtkbghbkfaloblaaProg.lean LOADS. Nothing in Lean hashes anything: it is a label: what it is worth is what the hold of that sum in a sandbox is worth. -/
noncomputable def Try.pinned : Pinned := { name := "ytkbghbkfaloblaa", sum := "15e6b2cb0c6d5e8c357cd2773ca37b0ebca93dd785cbbcde7986792bc34021f8", checked := Try.checked }
namespace Rows
def none {H : Type} : Left H := { results := [], args := [] }

/-- 'salternlaw23.ImageBack': WHATEVER THE INPUT: true; the input reads as it did. -/
def imageBackSpec : ChangeSpec := { name := "imageBack", fn := fun _ => fun
  | [d1, d2, d3, d4, d5, d6, d7] => { results := [.lit (.bool true)], args := [d1, d2, d3, d4, d5, d6, d7] }
  | _ => none }
def imageBackRow : OpenClaim := { program := "ytkbghbkfaloblaa", sum := "15e6b2cb0c6d5e8c357cd2773ca37b0ebca93dd785cbbcde7986792bc34021f8", func := "saltern/salternlaw23.ImageBack", spec := "imageBack", apart := false }
def ImageBackSaid : Prop := imageBackRow.holds Try.pinned (OpenSpec.ofChange imageBackSpec)

/-- ITS FALSE NEIGHBOUR: 'it returns false'. Refute it at one input. -/
def imageBackWrong : ChangeSpec := { name := "imageBack", fn := fun _ => fun
  | [d1, d2, d3, d4, d5, d6, d7] => { results := [.lit (.bool false)], args := [d1, d2, d3, d4, d5, d6, d7] }
  | _ => none }
def ImageBackWrongFalsely : Prop := imageBackRow.holds Try.pinned (OpenSpec.ofChange imageBackWrong)

/-- 'salternlaw23.ImageReads': WHATEVER THE INPUT: true; the input reads as it did. -/
def imageReadsSpec : ChangeSpec := { name := "imageReads", fn := fun _ => fun
  | [d1, d2, d3, d4, d5] => { results := [.lit (.bool true)], args := [d1, d2, d3, d4, d5] }
  | _ => none }
def imageReadsRow : OpenClaim := { program := "ytkbghbkfaloblaa", sum := "15e6b2cb0c6d5e8c357cd2773ca37b0ebca93dd785cbbcde7986792bc34021f8", func := "saltern/salternlaw23.ImageReads", spec := "imageReads", apart := false }
def ImageReadsSaid : Prop := imageReadsRow.holds Try.pinned (OpenSpec.ofChange imageReadsSpec)

/-- ITS FALSE NEIGHBOUR: 'it returns false'. Refute it at one input. -/
def imageReadsWrong : ChangeSpec := { name := "imageReads", fn := fun _ => fun
  | [d1, d2, d3, d4, d5] => { results := [.lit (.bool false)], args := [d1, d2, d3, d4, d5] }
  | _ => none }
def ImageReadsWrongFalsely : Prop := imageReadsRow.holds Try.pinned (OpenSpec.ofChange imageReadsWrong)

/-- 'salternlaw23.ImageLimits': WHATEVER THE INPUT: true; the input reads as it did. -/
def imageLimitsSpec : ChangeSpec := { name := "imageLimits", fn := fun _ => fun
  | [d1, d2] => { results := [.lit (.bool true)], args := [d1, d2] }
  | _ => none }
def imageLimitsRow : OpenClaim := { program := "ytkbghbkfaloblaa", sum := "15e6b2cb0c6d5e8c357cd2773ca37b0ebca93dd785cbbcde7986792bc34021f8", func := "saltern/salternlaw23.ImageLimits", spec := "imageLimits", apart := false }
def ImageLimitsSaid : Prop := imageLimitsRow.holds Try.pinned (OpenSpec.ofChange imageLimitsSpec)

/-- ITS FALSE NEIGHBOUR: 'it returns false'. Refute it at one input. -/
def imageLimitsWrong : ChangeSpec := { name := "imageLimits", fn := fun _ => fun
  | [d1, d2] => { results := [.lit (.bool false)], args := [d1, d2] }
  | _ => none }
def ImageLimitsWrongFalsely : Prop := imageLimitsRow.holds Try.pinned (OpenSpec.ofChange imageLimitsWrong)

/-- 'salternlaw23.ImageOrder': WHATEVER THE INPUT: true; the input reads as it did. -/
def imageOrderSpec : ChangeSpec := { name := "imageOrder", fn := fun _ => fun
  | [d1, d2, d3, d4] => { results := [.lit (.bool true)], args := [d1, d2, d3, d4] }
  | _ => none }
def imageOrderRow : OpenClaim := { program := "ytkbghbkfaloblaa", sum := "15e6b2cb0c6d5e8c357cd2773ca37b0ebca93dd785cbbcde7986792bc34021f8", func := "saltern/salternlaw23.ImageOrder", spec := "imageOrder", apart := false }
def ImageOrderSaid : Prop := imageOrderRow.holds Try.pinned (OpenSpec.ofChange imageOrderSpec)

/-- ITS FALSE NEIGHBOUR: 'it returns false'. Refute it at one input. -/
def imageOrderWrong : ChangeSpec := { name := "imageOrder", fn := fun _ => fun
  | [d1, d2, d3, d4] => { results := [.lit (.bool false)], args := [d1, d2, d3, d4] }
  | _ => none }
def ImageOrderWrongFalsely : Prop := imageOrderRow.holds Try.pinned (OpenSpec.ofChange imageOrderWrong)

/- THE SECOND FORM. 'bulk': how many values and letters a reading holds, each counted each time it is reached (what is shared counts as often as it is met; a slice's spare places count too). A statement '..UptoSaid' is the law's where the arguments, and the package variables that the reading takes, are together of bulk at most 1048576: NARROWER than '..Said'. Prove '..Said' where nothing that the law and all that it calls make is longer than what came in: it says more and counts as full. Else prove '..UptoSaid'. A law counts once. -/
mutual
def uptoBulk {H : Type} : DataW H → Nat
  | .lit (.string bytes) => bytes.length + 1
  | .lit _ => 1
  | .nil => 1
  | .ptr d => uptoBulk d + 1
  | .slice elems spare => uptoBulkAll elems + uptoBulkAll spare + 1
  | .agg parts => uptoBulkAll parts + 1
  | .iface _ d => uptoBulk d + 1
  | .map entries => uptoBulkEntries entries + 1
  | .held _ => 1
def uptoBulkAll {H : Type} : List (DataW H) → Nat
  | [] => 0
  | d :: r => uptoBulk d + uptoBulkAll r
def uptoBulkEntries {H : Type} : List (Lit × DataW H) → Nat
  | [] => 0
  | x :: r => uptoBulkEntry x + uptoBulkEntries r
def uptoBulkEntry {H : Type} : Lit × DataW H → Nat
  | (.string bytes, d) => bytes.length + uptoBulk d + 1
  | (_, d) => uptoBulk d + 1
 end
def uptoSmall : (H : Type) → List (DataW H) → Bool := fun _ ds => decide (uptoBulkAll ds ≤ 1048576)
def OpenSpec.upto (s : _root_.Go.ChangeSpec) : _root_.Go.OpenSpec := { _root_.Go.OpenSpec.ofChange s with cond := some uptoSmall }

/-- 'salternlaw23.ImageBack', WHERE WHAT IT READS IS OF BULK AT MOST 1048576: true; the input reads as it did. -/
def imageBackUptoRow : OpenClaim := { program := "ytkbghbkfaloblaa", sum := "15e6b2cb0c6d5e8c357cd2773ca37b0ebca93dd785cbbcde7986792bc34021f8", func := "saltern/salternlaw23.ImageBack", spec := "imageBack", apart := false, narrowed := true }
def ImageBackUptoSaid : Prop := imageBackUptoRow.holds Try.pinned (OpenSpec.upto imageBackSpec)

/-- 'salternlaw23.ImageReads', WHERE WHAT IT READS IS OF BULK AT MOST 1048576: true; the input reads as it did. -/
def imageReadsUptoRow : OpenClaim := { program := "ytkbghbkfaloblaa", sum := "15e6b2cb0c6d5e8c357cd2773ca37b0ebca93dd785cbbcde7986792bc34021f8", func := "saltern/salternlaw23.ImageReads", spec := "imageReads", apart := false, narrowed := true }
def ImageReadsUptoSaid : Prop := imageReadsUptoRow.holds Try.pinned (OpenSpec.upto imageReadsSpec)

/-- 'salternlaw23.ImageLimits', WHERE WHAT IT READS IS OF BULK AT MOST 1048576: true; the input reads as it did. -/
def imageLimitsUptoRow : OpenClaim := { program := "ytkbghbkfaloblaa", sum := "15e6b2cb0c6d5e8c357cd2773ca37b0ebca93dd785cbbcde7986792bc34021f8", func := "saltern/salternlaw23.ImageLimits", spec := "imageLimits", apart := false, narrowed := true }
def ImageLimitsUptoSaid : Prop := imageLimitsUptoRow.holds Try.pinned (OpenSpec.upto imageLimitsSpec)

/-- 'salternlaw23.ImageOrder', WHERE WHAT IT READS IS OF BULK AT MOST 1048576: true; the input reads as it did. -/
def imageOrderUptoRow : OpenClaim := { program := "ytkbghbkfaloblaa", sum := "15e6b2cb0c6d5e8c357cd2773ca37b0ebca93dd785cbbcde7986792bc34021f8", func := "saltern/salternlaw23.ImageOrder", spec := "imageOrder", apart := false, narrowed := true }
def ImageOrderUptoSaid : Prop := imageOrderUptoRow.holds Try.pinned (OpenSpec.upto imageOrderSpec)

end Rows
end Go.Proofs.Ytkbghbkfaloblaa
