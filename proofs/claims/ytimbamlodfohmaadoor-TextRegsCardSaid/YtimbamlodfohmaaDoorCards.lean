/-
  DERIVED. GIVEN WITH THE SEED: THE CARDS: each row of YtimbamlodfohmaaDoorRows.lean that lists a variable, with what it lists TIED to the program's text (the seventh form; the later family's looks); each row that meets fmt, with fmt's text TOLD by the authors' own Lean function (tested against real Go, not proved from fmt's source: count such statements apart). THE CARD IS WHAT COUNTS. Prove the row's statement (the work); the ties are given (YtimbamlodfohmaaDoorTie.lean); close each card by the builder's one call (the guide's Derived/Test/ToyasCard.lean, 'card_holds'). Laid BY PROGRAM, IN A SANDBOX (cutbox-door.mjs). By AI agents, Wed Nov 11 2026. No macro, syntax, notation, axiom, sorry.
-/
import Derived.Test.YtimbamlodfohmaaDoorRows
import GoSem.ClaimSeven
namespace Go.Proofs.YtimbamlodfohmaaDoor
namespace Rows

/-- THE TIED CARD OF 'salternlaw12.TextNames'. -/
def textNamesCard : Claim7 := { stood := { row := textNamesRow, standIns := [], harness := (true, "475bcd770c05203f7e30fa8282fa48bf6add519430af2897173c3547d33668f2"), looks := false }, kinds := [], alts := [], laidByText := true, laidKinds := [.data, .data, .data, .listed, .data], laidTests := true, laidLooks := .later }
def TextNamesCardSaid : Prop := Claim7.holds Tryd.pinned (.plain (OpenSpec.ofChange textNamesSpec)) textNamesCard

/-- THE TIED CARD OF 'salternlaw12.TextRegs'. -/
def textRegsCard : Claim7 := { stood := { row := textRegsRow, standIns := [], harness := (true, "475bcd770c05203f7e30fa8282fa48bf6add519430af2897173c3547d33668f2"), looks := false }, kinds := [], alts := [], laidByText := true, laidKinds := [.data, .data, .data, .listed, .data], laidTests := true, laidLooks := .later }
def TextRegsCardSaid : Prop := Claim7.holds Tryd.pinned (.plain (OpenSpec.ofChange textRegsSpec)) textRegsCard

/-- THE SECOND FORM's CARD OF 'salternlaw12.TextNames'. -/
def textNamesUptoCard : Claim7 := { stood := { row := textNamesUptoRow, standIns := [], harness := (true, "475bcd770c05203f7e30fa8282fa48bf6add519430af2897173c3547d33668f2"), looks := false }, kinds := [], alts := [], laidByText := true, laidKinds := [.data, .data, .data, .listed, .data], laidTests := true, laidLooks := .later }
def TextNamesUptoCardSaid : Prop := Claim7.holds Tryd.pinned (.plain (OpenSpec.upto textNamesSpec)) textNamesUptoCard

/-- THE SECOND FORM's CARD OF 'salternlaw12.TextRegs'. -/
def textRegsUptoCard : Claim7 := { stood := { row := textRegsUptoRow, standIns := [], harness := (true, "475bcd770c05203f7e30fa8282fa48bf6add519430af2897173c3547d33668f2"), looks := false }, kinds := [], alts := [], laidByText := true, laidKinds := [.data, .data, .data, .listed, .data], laidTests := true, laidLooks := .later }
def TextRegsUptoCardSaid : Prop := Claim7.holds Tryd.pinned (.plain (OpenSpec.upto textRegsSpec)) textRegsUptoCard
end Rows
end Go.Proofs.YtimbamlodfohmaaDoor
