/-
  No cell of these rows narrows 'for every input' (looked for: loops, veiled, ifaces, maps, wideKeys, modest, calm, conditions, laid).
  DERIVED. THE GIVEN ROWS OF THIS SEAT. 7 by the template 'for every input the law returns true; each argument reads behind the call as it read before'; 0 by the template 'total and deterministic' (their statements: YtfacghikjnjjmaaTotals.lean).
  GIVEN WITH THE SEED: the statements are not yours to turn. If you find one false, say at which input.
  Laid BY PROGRAM, IN A SANDBOX (cutbox-rows.mjs): the forced cells as the released guide's own fill.sh prints them over the translation 9d87147c5b823d21… (all of the seat's roots in one cut). By AI agents, Wed Nov 11 2026. No macro, syntax, notation, axiom, sorry.
-/
import Derived.Test.YtfacghikjnjjmaaChecked
import GoSem.Claim
import GoSem.ClaimJoined
import GoSem.ClaimMapViews
import Derived.JoinedTies
import Derived.KernelRfl
namespace Go.Proofs.Ytfacghikjnjjmaa
/- THE CELL 'sum', in the pinned program and in every row, IS THE sha256 OF THE DUMP (.gsa) THAT YtfacghikjnjjmaaProg.lean LOADS. Nothing in Lean hashes anything: it is a label: what it is worth is what the hold of that sum in a sandbox is worth. -/
noncomputable def Try.pinned : Pinned := { name := "ytfacghikjnjjmaa", sum := "9d87147c5b823d211401cbae3498d5d6ee436bb53f102dc663c4162366f28e85", checked := Try.checked }
namespace Rows
def none {H : Type} : Left H := { results := [], args := [] }

/-- 'salternlaw25.ServeLists': WHATEVER THE INPUT: true; the input reads as it did. -/
def serveListsSpec : ChangeSpec := { name := "serveLists", fn := fun _ => fun
  | [d1, d2] => { results := [.lit (.bool true)], args := [d1, d2] }
  | _ => none }
def serveListsRow : OpenClaim := { program := "ytfacghikjnjjmaa", sum := "9d87147c5b823d211401cbae3498d5d6ee436bb53f102dc663c4162366f28e85", func := "saltern/salternlaw25.ServeLists", spec := "serveLists", apart := false }
def ServeListsSaid : Prop := serveListsRow.holds Try.pinned (OpenSpec.ofChange serveListsSpec)

/-- ITS FALSE NEIGHBOUR: 'it returns false'. Refute it at one input. -/
def serveListsWrong : ChangeSpec := { name := "serveLists", fn := fun _ => fun
  | [d1, d2] => { results := [.lit (.bool false)], args := [d1, d2] }
  | _ => none }
def ServeListsWrongFalsely : Prop := serveListsRow.holds Try.pinned (OpenSpec.ofChange serveListsWrong)

/-- 'salternlaw25.ServePlays': WHATEVER THE INPUT: true; the input reads as it did. -/
def servePlaysSpec : ChangeSpec := { name := "servePlays", fn := fun _ => fun
  | [d1, d2, d3, d4, d5] => { results := [.lit (.bool true)], args := [d1, d2, d3, d4, d5] }
  | _ => none }
def servePlaysRow : OpenClaim := { program := "ytfacghikjnjjmaa", sum := "9d87147c5b823d211401cbae3498d5d6ee436bb53f102dc663c4162366f28e85", func := "saltern/salternlaw25.ServePlays", spec := "servePlays", apart := false }
def ServePlaysSaid : Prop := servePlaysRow.holds Try.pinned (OpenSpec.ofChange servePlaysSpec)

/-- ITS FALSE NEIGHBOUR: 'it returns false'. Refute it at one input. -/
def servePlaysWrong : ChangeSpec := { name := "servePlays", fn := fun _ => fun
  | [d1, d2, d3, d4, d5] => { results := [.lit (.bool false)], args := [d1, d2, d3, d4, d5] }
  | _ => none }
def ServePlaysWrongFalsely : Prop := servePlaysRow.holds Try.pinned (OpenSpec.ofChange servePlaysWrong)

/-- 'salternlaw25.ServeGrows': WHATEVER THE INPUT: true; the input reads as it did. -/
def serveGrowsSpec : ChangeSpec := { name := "serveGrows", fn := fun _ => fun
  | [d] => { results := [.lit (.bool true)], args := [d] }
  | _ => none }
def serveGrowsRow : OpenClaim := { program := "ytfacghikjnjjmaa", sum := "9d87147c5b823d211401cbae3498d5d6ee436bb53f102dc663c4162366f28e85", func := "saltern/salternlaw25.ServeGrows", spec := "serveGrows", apart := false }
def ServeGrowsSaid : Prop := serveGrowsRow.holds Try.pinned (OpenSpec.ofChange serveGrowsSpec)

/-- ITS FALSE NEIGHBOUR: 'it returns false'. Refute it at one input. -/
def serveGrowsWrong : ChangeSpec := { name := "serveGrows", fn := fun _ => fun
  | [d] => { results := [.lit (.bool false)], args := [d] }
  | _ => none }
def ServeGrowsWrongFalsely : Prop := serveGrowsRow.holds Try.pinned (OpenSpec.ofChange serveGrowsWrong)

/-- 'salternlaw6.MemBack': WHATEVER THE INPUT: true; the input reads as it did. -/
def memBackSpec : ChangeSpec := { name := "memBack", fn := fun _ => fun
  | [d1, d2, d3] => { results := [.lit (.bool true)], args := [d1, d2, d3] }
  | _ => none }
def memBackRow : OpenClaim := { program := "ytfacghikjnjjmaa", sum := "9d87147c5b823d211401cbae3498d5d6ee436bb53f102dc663c4162366f28e85", func := "saltern/salternlaw6.MemBack", spec := "memBack", unfollowed := true, recurses := true, apart := false }
def MemBackSaid : Prop := memBackRow.holds Try.pinned (OpenSpec.ofChange memBackSpec)

/-- ITS FALSE NEIGHBOUR: 'it returns false'. Refute it at one input. -/
def memBackWrong : ChangeSpec := { name := "memBack", fn := fun _ => fun
  | [d1, d2, d3] => { results := [.lit (.bool false)], args := [d1, d2, d3] }
  | _ => none }
def MemBackWrongFalsely : Prop := memBackRow.holds Try.pinned (OpenSpec.ofChange memBackWrong)

/-- 'salternlaw6.MemPages': WHATEVER THE INPUT: true; the input reads as it did. -/
def memPagesSpec : ChangeSpec := { name := "memPages", fn := fun _ => fun
  | [d1, d2] => { results := [.lit (.bool true)], args := [d1, d2] }
  | _ => none }
def memPagesRow : OpenClaim := { program := "ytfacghikjnjjmaa", sum := "9d87147c5b823d211401cbae3498d5d6ee436bb53f102dc663c4162366f28e85", func := "saltern/salternlaw6.MemPages", spec := "memPages", unfollowed := true, recurses := true, apart := false }
def MemPagesSaid : Prop := memPagesRow.holds Try.pinned (OpenSpec.ofChange memPagesSpec)

/-- ITS FALSE NEIGHBOUR: 'it returns false'. Refute it at one input. -/
def memPagesWrong : ChangeSpec := { name := "memPages", fn := fun _ => fun
  | [d1, d2] => { results := [.lit (.bool false)], args := [d1, d2] }
  | _ => none }
def MemPagesWrongFalsely : Prop := memPagesRow.holds Try.pinned (OpenSpec.ofChange memPagesWrong)

/-- 'salternlaw6.MemPlays': WHATEVER THE INPUT: true; the input reads as it did. -/
def memPlaysSpec : ChangeSpec := { name := "memPlays", fn := fun _ => fun
  | [d] => { results := [.lit (.bool true)], args := [d] }
  | _ => none }
def memPlaysRow : OpenClaim := { program := "ytfacghikjnjjmaa", sum := "9d87147c5b823d211401cbae3498d5d6ee436bb53f102dc663c4162366f28e85", func := "saltern/salternlaw6.MemPlays", spec := "memPlays", unfollowed := true, recurses := true, apart := false }
def MemPlaysSaid : Prop := memPlaysRow.holds Try.pinned (OpenSpec.ofChange memPlaysSpec)

/-- ITS FALSE NEIGHBOUR: 'it returns false'. Refute it at one input. -/
def memPlaysWrong : ChangeSpec := { name := "memPlays", fn := fun _ => fun
  | [d] => { results := [.lit (.bool false)], args := [d] }
  | _ => none }
def MemPlaysWrongFalsely : Prop := memPlaysRow.holds Try.pinned (OpenSpec.ofChange memPlaysWrong)

/-- 'salternlaw25.ServePointers': WHATEVER THE INPUT: true; the input reads as it did. -/
def servePointersSpec : ChangeSpec := { name := "servePointers", fn := fun _ => fun
  | [d1, d2, d3, d4, d5] => { results := [.lit (.bool true)], args := [d1, d2, d3, d4, d5] }
  | _ => none }
def servePointersRow : OpenClaim := { program := "ytfacghikjnjjmaa", sum := "9d87147c5b823d211401cbae3498d5d6ee436bb53f102dc663c4162366f28e85", func := "saltern/salternlaw25.ServePointers", spec := "servePointers", unfollowed := true, recurses := true, apart := false }
def ServePointersSaid : Prop := servePointersRow.holds Try.pinned (OpenSpec.ofChange servePointersSpec)

/-- ITS FALSE NEIGHBOUR: 'it returns false'. Refute it at one input. -/
def servePointersWrong : ChangeSpec := { name := "servePointers", fn := fun _ => fun
  | [d1, d2, d3, d4, d5] => { results := [.lit (.bool false)], args := [d1, d2, d3, d4, d5] }
  | _ => none }
def ServePointersWrongFalsely : Prop := servePointersRow.holds Try.pinned (OpenSpec.ofChange servePointersWrong)

/- THE SECOND FORM. 'bulk': how many values and letters a reading holds, each counted each time it is reached (what is shared counts as often as it is met; a slice's spare places count too). A statement '..UptoSaid' is the law's where the arguments, and the package variables that the reading takes, are together of bulk at most 1048576: NARROWER than '..Said'. Prove '..Said' where nothing that the law and all that it calls make is longer than what came in: it says more and counts as full. Else prove '..UptoSaid'. A law counts once. -/
mutual
def uptoBulk {H : Type} : DataW H → Nat
  | .lit (.string bytes) => bytes.length + 1
  | .lit _ => 1
  | .nil => 1
  | .ptr d => uptoBulk d + 1
  | .slice elems spare => uptoBulkAll elems + uptoBulkAll spare + 1
  | .agg parts => uptoBulkAll parts + 1
  | .iface _ d => uptoBulk d + 1
  | .map entries => uptoBulkEntries entries + 1
  | .held _ => 1
def uptoBulkAll {H : Type} : List (DataW H) → Nat
  | [] => 0
  | d :: r => uptoBulk d + uptoBulkAll r
def uptoBulkEntries {H : Type} : List (Lit × DataW H) → Nat
  | [] => 0
  | x :: r => uptoBulkEntry x + uptoBulkEntries r
def uptoBulkEntry {H : Type} : Lit × DataW H → Nat
  | (.string bytes, d) => bytes.length + uptoBulk d + 1
  | (_, d) => uptoBulk d + 1
 end
def uptoSmall : (H : Type) → List (DataW H) → Bool := fun _ ds => decide (uptoBulkAll ds ≤ 1048576)
def OpenSpec.upto (s : _root_.Go.ChangeSpec) : _root_.Go.OpenSpec := { _root_.Go.OpenSpec.ofChange s with cond := some uptoSmall }

/-- 'salternlaw25.ServeLists', WHERE WHAT IT READS IS OF BULK AT MOST 1048576: true; the input reads as it did. -/
def serveListsUptoRow : OpenClaim := { program := "ytfacghikjnjjmaa", sum := "9d87147c5b823d211401cbae3498d5d6ee436bb53f102dc663c4162366f28e85", func := "saltern/salternlaw25.ServeLists", spec := "serveLists", apart := false, narrowed := true }
def ServeListsUptoSaid : Prop := serveListsUptoRow.holds Try.pinned (OpenSpec.upto serveListsSpec)

/-- 'salternlaw25.ServePlays', WHERE WHAT IT READS IS OF BULK AT MOST 1048576: true; the input reads as it did. -/
def servePlaysUptoRow : OpenClaim := { program := "ytfacghikjnjjmaa", sum := "9d87147c5b823d211401cbae3498d5d6ee436bb53f102dc663c4162366f28e85", func := "saltern/salternlaw25.ServePlays", spec := "servePlays", apart := false, narrowed := true }
def ServePlaysUptoSaid : Prop := servePlaysUptoRow.holds Try.pinned (OpenSpec.upto servePlaysSpec)

/-- 'salternlaw25.ServeGrows', WHERE WHAT IT READS IS OF BULK AT MOST 1048576: true; the input reads as it did. -/
def serveGrowsUptoRow : OpenClaim := { program := "ytfacghikjnjjmaa", sum := "9d87147c5b823d211401cbae3498d5d6ee436bb53f102dc663c4162366f28e85", func := "saltern/salternlaw25.ServeGrows", spec := "serveGrows", apart := false, narrowed := true }
def ServeGrowsUptoSaid : Prop := serveGrowsUptoRow.holds Try.pinned (OpenSpec.upto serveGrowsSpec)

/-- 'salternlaw6.MemBack', WHERE WHAT IT READS IS OF BULK AT MOST 1048576: true; the input reads as it did. -/
def memBackUptoRow : OpenClaim := { program := "ytfacghikjnjjmaa", sum := "9d87147c5b823d211401cbae3498d5d6ee436bb53f102dc663c4162366f28e85", func := "saltern/salternlaw6.MemBack", spec := "memBack", unfollowed := true, recurses := true, apart := false, narrowed := true }
def MemBackUptoSaid : Prop := memBackUptoRow.holds Try.pinned (OpenSpec.upto memBackSpec)

/-- 'salternlaw6.MemPages', WHERE WHAT IT READS IS OF BULK AT MOST 1048576: true; the input reads as it did. -/
def memPagesUptoRow : OpenClaim := { program := "ytfacghikjnjjmaa", sum := "9d87147c5b823d211401cbae3498d5d6ee436bb53f102dc663c4162366f28e85", func := "saltern/salternlaw6.MemPages", spec := "memPages", unfollowed := true, recurses := true, apart := false, narrowed := true }
def MemPagesUptoSaid : Prop := memPagesUptoRow.holds Try.pinned (OpenSpec.upto memPagesSpec)

/-- 'salternlaw6.MemPlays', WHERE WHAT IT READS IS OF BULK AT MOST 1048576: true; the input reads as it did. -/
def memPlaysUptoRow : OpenClaim := { program := "ytfacghikjnjjmaa", sum := "9d87147c5b823d211401cbae3498d5d6ee436bb53f102dc663c4162366f28e85", func := "saltern/salternlaw6.MemPlays", spec := "memPlays", unfollowed := true, recurses := true, apart := false, narrowed := true }
def MemPlaysUptoSaid : Prop := memPlaysUptoRow.holds Try.pinned (OpenSpec.upto memPlaysSpec)

/-- 'salternlaw25.ServePointers', WHERE WHAT IT READS IS OF BULK AT MOST 1048576: true; the input reads as it did. -/
def servePointersUptoRow : OpenClaim := { program := "ytfacghikjnjjmaa", sum := "9d87147c5b823d211401cbae3498d5d6ee436bb53f102dc663c4162366f28e85", func := "saltern/salternlaw25.ServePointers", spec := "servePointers", unfollowed := true, recurses := true, apart := false, narrowed := true }
def ServePointersUptoSaid : Prop := servePointersUptoRow.holds Try.pinned (OpenSpec.upto servePointersSpec)

end Rows
end Go.Proofs.Ytfacghikjnjjmaa
