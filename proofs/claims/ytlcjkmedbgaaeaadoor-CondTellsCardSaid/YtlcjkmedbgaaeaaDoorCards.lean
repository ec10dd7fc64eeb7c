/-
  DERIVED. GIVEN WITH THE SEED: THE CARDS: each row of YtlcjkmedbgaaeaaDoorRows.lean that lists a variable, with what it lists TIED to the program's text (the seventh form; the later family's looks); each row that meets fmt, with fmt's text TOLD by the authors' own Lean function (tested against real Go, not proved from fmt's source: count such statements apart). THE CARD IS WHAT COUNTS. Prove the row's statement (the work); the ties are given (YtlcjkmedbgaaeaaDoorTie.lean); close each card by the builder's one call (the guide's Derived/Test/ToyasCard.lean, 'card_holds'). Laid BY PROGRAM, IN A SANDBOX (cutbox-door.mjs). By AI agents, Wed Nov 11 2026. No macro, syntax, notation, axiom, sorry.
-/
import Derived.Test.YtlcjkmedbgaaeaaDoorRows
import GoSem.ClaimSeven
namespace Go.Proofs.YtlcjkmedbgaaeaaDoor
namespace Rows

/-- THE TIED CARD OF 'salternlaw5.CondTells'. -/
def condTellsCard : Claim7 := { stood := { row := condTellsRow, standIns := [], harness := (true, "e7e8f3f899ba1a68e3339f253410232bcf7070517e6f9217980c120fc99bf1b3"), looks := false }, kinds := [], alts := [], laidByText := true, laidKinds := [.listed, .data], laidTests := true, laidLooks := .later }
def CondTellsCardSaid : Prop := Claim7.holds Tryd.pinned (.plain (OpenSpec.ofChange condTellsSpec)) condTellsCard

/-- THE TIED CARD OF 'salternlaw5.CondTurns'. -/
def condTurnsCard : Claim7 := { stood := { row := condTurnsRow, standIns := [], harness := (true, "e7e8f3f899ba1a68e3339f253410232bcf7070517e6f9217980c120fc99bf1b3"), looks := false }, kinds := [], alts := [], laidByText := true, laidKinds := [.listed, .data], laidTests := true, laidLooks := .later }
def CondTurnsCardSaid : Prop := Claim7.holds Tryd.pinned (.plain (OpenSpec.ofChange condTurnsSpec)) condTurnsCard

/-- THE TIED CARD OF 'salternlaw5.CondSums'. -/
def condSumsCard : Claim7 := { stood := { row := condSumsRow, standIns := [], harness := (true, "e7e8f3f899ba1a68e3339f253410232bcf7070517e6f9217980c120fc99bf1b3"), looks := false }, kinds := [], alts := [], laidByText := true, laidKinds := [.listed, .data], laidTests := true, laidLooks := .later }
def CondSumsCardSaid : Prop := Claim7.holds Tryd.pinned (.plain (OpenSpec.ofChange condSumsSpec)) condSumsCard

/-- THE SECOND FORM's CARD OF 'salternlaw5.CondTells'. -/
def condTellsUptoCard : Claim7 := { stood := { row := condTellsUptoRow, standIns := [], harness := (true, "e7e8f3f899ba1a68e3339f253410232bcf7070517e6f9217980c120fc99bf1b3"), looks := false }, kinds := [], alts := [], laidByText := true, laidKinds := [.listed, .data], laidTests := true, laidLooks := .later }
def CondTellsUptoCardSaid : Prop := Claim7.holds Tryd.pinned (.plain (OpenSpec.upto condTellsSpec)) condTellsUptoCard

/-- THE SECOND FORM's CARD OF 'salternlaw5.CondTurns'. -/
def condTurnsUptoCard : Claim7 := { stood := { row := condTurnsUptoRow, standIns := [], harness := (true, "e7e8f3f899ba1a68e3339f253410232bcf7070517e6f9217980c120fc99bf1b3"), looks := false }, kinds := [], alts := [], laidByText := true, laidKinds := [.listed, .data], laidTests := true, laidLooks := .later }
def CondTurnsUptoCardSaid : Prop := Claim7.holds Tryd.pinned (.plain (OpenSpec.upto condTurnsSpec)) condTurnsUptoCard

/-- THE SECOND FORM's CARD OF 'salternlaw5.CondSums'. -/
def condSumsUptoCard : Claim7 := { stood := { row := condSumsUptoRow, standIns := [], harness := (true, "e7e8f3f899ba1a68e3339f253410232bcf7070517e6f9217980c120fc99bf1b3"), looks := false }, kinds := [], alts := [], laidByText := true, laidKinds := [.listed, .data], laidTests := true, laidLooks := .later }
def CondSumsUptoCardSaid : Prop := Claim7.holds Tryd.pinned (.plain (OpenSpec.upto condSumsSpec)) condSumsUptoCard
end Rows
end Go.Proofs.YtlcjkmedbgaaeaaDoor
