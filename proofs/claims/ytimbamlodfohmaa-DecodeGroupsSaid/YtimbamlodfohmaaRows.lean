/-
  No cell of these rows narrows 'for every input' (looked for: loops, veiled, ifaces, maps, wideKeys, modest, calm, conditions, laid).
  DERIVED. THE GIVEN ROWS OF THIS SEAT. 7 by the template 'for every input the law returns true; each argument reads behind the call as it read before'; 0 by the template 'total and deterministic' (their statements: YtimbamlodfohmaaTotals.lean).
  GIVEN WITH THE SEED: the statements are not yours to turn. If you find one false, say at which input.
  Laid BY PROGRAM, IN A SANDBOX (cutbox-rows.mjs): the forced cells as the released guide's own fill.sh prints them over the translation 3560053b8f40b60d… (all of the seat's roots in one cut). By AI agents, Wed Nov 11 2026. No macro, syntax, notation, axiom, sorry.
-/
import Derived.Test.YtimbamlodfohmaaChecked
import GoSem.Claim
import GoSem.ClaimJoined
import GoSem.ClaimMapViews
import Derived.JoinedTies
import Derived.KernelRfl
namespace Go.Proofs.Ytimbamlodfohmaa
/- THE CELL 'sum', in the pinned program and in every row, IS THE sha256 OF THE DUMP (.gsa) THAT YtimbamlodfohmaaProg.lean LOADS. Nothing in Lean hashes anything: it is a label: what it is worth is what the hold of that sum in a sandbox is worth. -/
noncomputable def Try.pinned : Pinned := { name := "ytimbamlodfohmaa", sum := "3560053b8f40b60d8fdfc920673da8da704f8f3c069187d6a9ad0b18a368d343", checked := Try.checked }
namespace Rows
def none {H : Type} : Left H := { results := [], args := [] }

/-- 'salternlaw10.DecodeTells': WHATEVER THE INPUT: true; the input reads as it did. -/
def decodeTellsSpec : ChangeSpec := { name := "decodeTells", fn := fun _ => fun
  | [d1, d2, d3, d4, d5] => { results := [.lit (.bool true)], args := [d1, d2, d3, d4, d5] }
  | _ => none }
def decodeTellsRow : OpenClaim := { program := "ytimbamlodfohmaa", sum := "3560053b8f40b60d8fdfc920673da8da704f8f3c069187d6a9ad0b18a368d343", func := "saltern/salternlaw10.DecodeTells", spec := "decodeTells", apart := false }
def DecodeTellsSaid : Prop := decodeTellsRow.holds Try.pinned (OpenSpec.ofChange decodeTellsSpec)

/-- ITS FALSE NEIGHBOUR: 'it returns false'. Refute it at one input. -/
def decodeTellsWrong : ChangeSpec := { name := "decodeTells", fn := fun _ => fun
  | [d1, d2, d3, d4, d5] => { results := [.lit (.bool false)], args := [d1, d2, d3, d4, d5] }
  | _ => none }
def DecodeTellsWrongFalsely : Prop := decodeTellsRow.holds Try.pinned (OpenSpec.ofChange decodeTellsWrong)

/-- 'salternlaw10.DecodeTable': WHATEVER THE INPUT: true; the input reads as it did. -/
def decodeTableSpec : ChangeSpec := { name := "decodeTable", fn := fun _ => fun
  | [d1, d2, d3] => { results := [.lit (.bool true)], args := [d1, d2, d3] }
  | _ => none }
def decodeTableRow : OpenClaim := { program := "ytimbamlodfohmaa", sum := "3560053b8f40b60d8fdfc920673da8da704f8f3c069187d6a9ad0b18a368d343", func := "saltern/salternlaw10.DecodeTable", spec := "decodeTable", apart := false }
def DecodeTableSaid : Prop := decodeTableRow.holds Try.pinned (OpenSpec.ofChange decodeTableSpec)

/-- ITS FALSE NEIGHBOUR: 'it returns false'. Refute it at one input. -/
def decodeTableWrong : ChangeSpec := { name := "decodeTable", fn := fun _ => fun
  | [d1, d2, d3] => { results := [.lit (.bool false)], args := [d1, d2, d3] }
  | _ => none }
def DecodeTableWrongFalsely : Prop := decodeTableRow.holds Try.pinned (OpenSpec.ofChange decodeTableWrong)

/-- 'salternlaw10.DecodeLong': WHATEVER THE INPUT: true; the input reads as it did. -/
def decodeLongSpec : ChangeSpec := { name := "decodeLong", fn := fun _ => fun
  | [d1, d2, d3, d4] => { results := [.lit (.bool true)], args := [d1, d2, d3, d4] }
  | _ => none }
def decodeLongRow : OpenClaim := { program := "ytimbamlodfohmaa", sum := "3560053b8f40b60d8fdfc920673da8da704f8f3c069187d6a9ad0b18a368d343", func := "saltern/salternlaw10.DecodeLong", spec := "decodeLong", apart := false }
def DecodeLongSaid : Prop := decodeLongRow.holds Try.pinned (OpenSpec.ofChange decodeLongSpec)

/-- ITS FALSE NEIGHBOUR: 'it returns false'. Refute it at one input. -/
def decodeLongWrong : ChangeSpec := { name := "decodeLong", fn := fun _ => fun
  | [d1, d2, d3, d4] => { results := [.lit (.bool false)], args := [d1, d2, d3, d4] }
  | _ => none }
def DecodeLongWrongFalsely : Prop := decodeLongRow.holds Try.pinned (OpenSpec.ofChange decodeLongWrong)

/-- 'salternlaw10.DecodeMasks': WHATEVER THE INPUT: true; the input reads as it did. -/
def decodeMasksSpec : ChangeSpec := { name := "decodeMasks", fn := fun _ => fun
  | [d1, d2, d3] => { results := [.lit (.bool true)], args := [d1, d2, d3] }
  | _ => none }
def decodeMasksRow : OpenClaim := { program := "ytimbamlodfohmaa", sum := "3560053b8f40b60d8fdfc920673da8da704f8f3c069187d6a9ad0b18a368d343", func := "saltern/salternlaw10.DecodeMasks", spec := "decodeMasks", apart := false }
def DecodeMasksSaid : Prop := decodeMasksRow.holds Try.pinned (OpenSpec.ofChange decodeMasksSpec)

/-- ITS FALSE NEIGHBOUR: 'it returns false'. Refute it at one input. -/
def decodeMasksWrong : ChangeSpec := { name := "decodeMasks", fn := fun _ => fun
  | [d1, d2, d3] => { results := [.lit (.bool false)], args := [d1, d2, d3] }
  | _ => none }
def DecodeMasksWrongFalsely : Prop := decodeMasksRow.holds Try.pinned (OpenSpec.ofChange decodeMasksWrong)

/-- 'salternlaw10.DecodeJumps': WHATEVER THE INPUT: true; the input reads as it did. -/
def decodeJumpsSpec : ChangeSpec := { name := "decodeJumps", fn := fun _ => fun
  | [d1, d2, d3] => { results := [.lit (.bool true)], args := [d1, d2, d3] }
  | _ => none }
def decodeJumpsRow : OpenClaim := { program := "ytimbamlodfohmaa", sum := "3560053b8f40b60d8fdfc920673da8da704f8f3c069187d6a9ad0b18a368d343", func := "saltern/salternlaw10.DecodeJumps", spec := "decodeJumps", apart := false }
def DecodeJumpsSaid : Prop := decodeJumpsRow.holds Try.pinned (OpenSpec.ofChange decodeJumpsSpec)

/-- ITS FALSE NEIGHBOUR: 'it returns false'. Refute it at one input. -/
def decodeJumpsWrong : ChangeSpec := { name := "decodeJumps", fn := fun _ => fun
  | [d1, d2, d3] => { results := [.lit (.bool false)], args := [d1, d2, d3] }
  | _ => none }
def DecodeJumpsWrongFalsely : Prop := decodeJumpsRow.holds Try.pinned (OpenSpec.ofChange decodeJumpsWrong)

/-- 'salternlaw10.DecodeGroups': WHATEVER THE INPUT: true; the input reads as it did. -/
def decodeGroupsSpec : ChangeSpec := { name := "decodeGroups", fn := fun _ => fun
  | [d1, d2] => { results := [.lit (.bool true)], args := [d1, d2] }
  | _ => none }
def decodeGroupsRow : OpenClaim := { program := "ytimbamlodfohmaa", sum := "3560053b8f40b60d8fdfc920673da8da704f8f3c069187d6a9ad0b18a368d343", func := "saltern/salternlaw10.DecodeGroups", spec := "decodeGroups", apart := false }
def DecodeGroupsSaid : Prop := decodeGroupsRow.holds Try.pinned (OpenSpec.ofChange decodeGroupsSpec)

/-- ITS FALSE NEIGHBOUR: 'it returns false'. Refute it at one input. -/
def decodeGroupsWrong : ChangeSpec := { name := "decodeGroups", fn := fun _ => fun
  | [d1, d2] => { results := [.lit (.bool false)], args := [d1, d2] }
  | _ => none }
def DecodeGroupsWrongFalsely : Prop := decodeGroupsRow.holds Try.pinned (OpenSpec.ofChange decodeGroupsWrong)

/-- 'salternlaw10.DecodeAll': WHATEVER THE INPUT: true; the input reads as it did. -/
def decodeAllSpec : ChangeSpec := { name := "decodeAll", fn := fun _ => fun
  | [d1, d2, d3, d4, d5] => { results := [.lit (.bool true)], args := [d1, d2, d3, d4, d5] }
  | _ => none }
def decodeAllRow : OpenClaim := { program := "ytimbamlodfohmaa", sum := "3560053b8f40b60d8fdfc920673da8da704f8f3c069187d6a9ad0b18a368d343", func := "saltern/salternlaw10.DecodeAll", spec := "decodeAll", apart := false }
def DecodeAllSaid : Prop := decodeAllRow.holds Try.pinned (OpenSpec.ofChange decodeAllSpec)

/-- ITS FALSE NEIGHBOUR: 'it returns false'. Refute it at one input. -/
def decodeAllWrong : ChangeSpec := { name := "decodeAll", fn := fun _ => fun
  | [d1, d2, d3, d4, d5] => { results := [.lit (.bool false)], args := [d1, d2, d3, d4, d5] }
  | _ => none }
def DecodeAllWrongFalsely : Prop := decodeAllRow.holds Try.pinned (OpenSpec.ofChange decodeAllWrong)

/- THE SECOND FORM. 'bulk': how many values and letters a reading holds, each counted each time it is reached (what is shared counts as often as it is met; a slice's spare places count too). A statement '..UptoSaid' is the law's where the arguments, and the package variables that the reading takes, are together of bulk at most 1048576: NARROWER than '..Said'. Prove '..Said' where nothing that the law and all that it calls make is longer than what came in: it says more and counts as full. Else prove '..UptoSaid'. A law counts once. -/
mutual
def uptoBulk {H : Type} : DataW H → Nat
  | .lit (.string bytes) => bytes.length + 1
  | .lit _ => 1
  | .nil => 1
  | .ptr d => uptoBulk d + 1
  | .slice elems spare => uptoBulkAll elems + uptoBulkAll spare + 1
  | .agg parts => uptoBulkAll parts + 1
  | .iface _ d => uptoBulk d + 1
  | .map entries => uptoBulkEntries entries + 1
  | .held _ => 1
def uptoBulkAll {H : Type} : List (DataW H) → Nat
  | [] => 0
  | d :: r => uptoBulk d + uptoBulkAll r
def uptoBulkEntries {H : Type} : List (Lit × DataW H) → Nat
  | [] => 0
  | x :: r => uptoBulkEntry x + uptoBulkEntries r
def uptoBulkEntry {H : Type} : Lit × DataW H → Nat
  | (.string bytes, d) => bytes.length + uptoBulk d + 1
  | (_, d) => uptoBulk d + 1
 end
def uptoSmall : (H : Type) → List (DataW H) → Bool := fun _ ds => decide (uptoBulkAll ds ≤ 1048576)
def OpenSpec.upto (s : _root_.Go.ChangeSpec) : _root_.Go.OpenSpec := { _root_.Go.OpenSpec.ofChange s with cond := some uptoSmall }

/-- 'salternlaw10.DecodeTells', WHERE WHAT IT READS IS OF BULK AT MOST 1048576: true; the input reads as it did. -/
def decodeTellsUptoRow : OpenClaim := { program := "ytimbamlodfohmaa", sum := "3560053b8f40b60d8fdfc920673da8da704f8f3c069187d6a9ad0b18a368d343", func := "saltern/salternlaw10.DecodeTells", spec := "decodeTells", apart := false, narrowed := true }
def DecodeTellsUptoSaid : Prop := decodeTellsUptoRow.holds Try.pinned (OpenSpec.upto decodeTellsSpec)

/-- 'salternlaw10.DecodeTable', WHERE WHAT IT READS IS OF BULK AT MOST 1048576: true; the input reads as it did. -/
def decodeTableUptoRow : OpenClaim := { program := "ytimbamlodfohmaa", sum := "3560053b8f40b60d8fdfc920673da8da704f8f3c069187d6a9ad0b18a368d343", func := "saltern/salternlaw10.DecodeTable", spec := "decodeTable", apart := false, narrowed := true }
def DecodeTableUptoSaid : Prop := decodeTableUptoRow.holds Try.pinned (OpenSpec.upto decodeTableSpec)

/-- 'salternlaw10.DecodeLong', WHERE WHAT IT READS IS OF BULK AT MOST 1048576: true; the input reads as it did. -/
def decodeLongUptoRow : OpenClaim := { program := "ytimbamlodfohmaa", sum := "3560053b8f40b60d8fdfc920673da8da704f8f3c069187d6a9ad0b18a368d343", func := "saltern/salternlaw10.DecodeLong", spec := "decodeLong", apart := false, narrowed := true }
def DecodeLongUptoSaid : Prop := decodeLongUptoRow.holds Try.pinned (OpenSpec.upto decodeLongSpec)

/-- 'salternlaw10.DecodeMasks', WHERE WHAT IT READS IS OF BULK AT MOST 1048576: true; the input reads as it did. -/
def decodeMasksUptoRow : OpenClaim := { program := "ytimbamlodfohmaa", sum := "3560053b8f40b60d8fdfc920673da8da704f8f3c069187d6a9ad0b18a368d343", func := "saltern/salternlaw10.DecodeMasks", spec := "decodeMasks", apart := false, narrowed := true }
def DecodeMasksUptoSaid : Prop := decodeMasksUptoRow.holds Try.pinned (OpenSpec.upto decodeMasksSpec)

/-- 'salternlaw10.DecodeJumps', WHERE WHAT IT READS IS OF BULK AT MOST 1048576: true; the input reads as it did. -/
def decodeJumpsUptoRow : OpenClaim := { program := "ytimbamlodfohmaa", sum := "3560053b8f40b60d8fdfc920673da8da704f8f3c069187d6a9ad0b18a368d343", func := "saltern/salternlaw10.DecodeJumps", spec := "decodeJumps", apart := false, narrowed := true }
def DecodeJumpsUptoSaid : Prop := decodeJumpsUptoRow.holds Try.pinned (OpenSpec.upto decodeJumpsSpec)

/-- 'salternlaw10.DecodeGroups', WHERE WHAT IT READS IS OF BULK AT MOST 1048576: true; the input reads as it did. -/
def decodeGroupsUptoRow : OpenClaim := { program := "ytimbamlodfohmaa", sum := "3560053b8f40b60d8fdfc920673da8da704f8f3c069187d6a9ad0b18a368d343", func := "saltern/salternlaw10.DecodeGroups", spec := "decodeGroups", apart := false, narrowed := true }
def DecodeGroupsUptoSaid : Prop := decodeGroupsUptoRow.holds Try.pinned (OpenSpec.upto decodeGroupsSpec)

/-- 'salternlaw10.DecodeAll', WHERE WHAT IT READS IS OF BULK AT MOST 1048576: true; the input reads as it did. -/
def decodeAllUptoRow : OpenClaim := { program := "ytimbamlodfohmaa", sum := "3560053b8f40b60d8fdfc920673da8da704f8f3c069187d6a9ad0b18a368d343", func := "saltern/salternlaw10.DecodeAll", spec := "decodeAll", apart := false, narrowed := true }
def DecodeAllUptoSaid : Prop := decodeAllUptoRow.holds Try.pinned (OpenSpec.upto decodeAllSpec)

end Rows
end Go.Proofs.Ytimbamlodfohmaa
