/-
  DERIVED. GIVEN WITH THE SEED: THE CARDS: each row of YtpdkdgfknanipaaGreatDoorRows.lean that lists a variable, with what it lists TIED to the program's text (the seventh form; the later family's looks); each row that meets fmt, with fmt's text TOLD by the authors' own Lean function (tested against real Go, not proved from fmt's source: count such statements apart). THE CARD IS WHAT COUNTS. Prove the row's statement (the work); the ties are given (YtpdkdgfknanipaaGreatDoorTie.lean); close each card by the builder's one call (the guide's Derived/Test/ToyasCard.lean, 'card_holds'). Laid BY PROGRAM, IN A SANDBOX (cutbox-door.mjs). By AI agents, Wed Nov 11 2026. No macro, syntax, notation, axiom, sorry.
-/
import Derived.Test.YtpdkdgfknanipaaGreatDoorRows
import GoSem.ClaimSeven
namespace Go.Proofs.YtpdkdgfknanipaaGreatDoor
namespace Rows

/-- THE TIED CARD OF 'derricklaw03.PrintMakes'. -/
def printMakesCard : Claim7 := { stood := { row := printMakesRow, standIns := [], harness := (true, "ebe2c8c9c900f5efde88b7ea2cba555410bc2b6e1d4a5c789bc1537c4b1abffb"), looks := true }, kinds := [], alts := [], laidByText := true, laidKinds := [.data, .data, .data, .handle, .sentinel, .sentinel], laidTests := true, laidLooks := .later }
def PrintMakesCardSaid : Prop := Claim7.holds Tryz.pinned (.plain (OpenSpec.ofChange printMakesSpec)) printMakesCard

/-- THE TIED CARD OF 'derricklaw03.PrintBack'. -/
def printBackCard : Claim7 := { stood := { row := printBackRow, standIns := [], harness := (true, "ebe2c8c9c900f5efde88b7ea2cba555410bc2b6e1d4a5c789bc1537c4b1abffb"), looks := true }, kinds := [], alts := [], laidByText := true, laidKinds := [.data, .data, .data, .handle, .sentinel, .sentinel], laidTests := true, laidLooks := .later }
def PrintBackCardSaid : Prop := Claim7.holds Tryz.pinned (.plain (OpenSpec.ofChange printBackSpec)) printBackCard

/-- THE TIED CARD OF 'derricklaw03.PrintLines'. -/
def printLinesCard : Claim7 := { stood := { row := printLinesRow, standIns := [], harness := (true, "ebe2c8c9c900f5efde88b7ea2cba555410bc2b6e1d4a5c789bc1537c4b1abffb"), looks := true }, kinds := [], alts := [], laidByText := true, laidKinds := [.data, .data, .data, .handle, .sentinel, .sentinel], laidTests := true, laidLooks := .later }
def PrintLinesCardSaid : Prop := Claim7.holds Tryz.pinned (.plain (OpenSpec.ofChange printLinesSpec)) printLinesCard

/-- THE TIED CARD OF 'derricklaw03.PrintExprs'. -/
def printExprsCard : Claim7 := { stood := { row := printExprsRow, standIns := [], harness := (true, "ebe2c8c9c900f5efde88b7ea2cba555410bc2b6e1d4a5c789bc1537c4b1abffb"), looks := true }, kinds := [], alts := [], laidByText := true, laidKinds := [.data, .data, .data, .handle, .sentinel, .sentinel], laidTests := true, laidLooks := .later }
def PrintExprsCardSaid : Prop := Claim7.holds Tryz.pinned (.plain (OpenSpec.ofChange printExprsSpec)) printExprsCard

/-- THE TIED CARD OF 'derricklaw03.PrintStill'. -/
def printStillCard : Claim7 := { stood := { row := printStillRow, standIns := [], harness := (true, "ebe2c8c9c900f5efde88b7ea2cba555410bc2b6e1d4a5c789bc1537c4b1abffb"), looks := true }, kinds := [], alts := [], laidByText := true, laidKinds := [.data, .data, .data, .handle, .sentinel, .sentinel], laidTests := true, laidLooks := .later }
def PrintStillCardSaid : Prop := Claim7.holds Tryz.pinned (.plain (OpenSpec.ofChange printStillSpec)) printStillCard

/-- THE SECOND FORM's CARD OF 'derricklaw03.PrintMakes'. -/
def printMakesUptoCard : Claim7 := { stood := { row := printMakesUptoRow, standIns := [], harness := (true, "ebe2c8c9c900f5efde88b7ea2cba555410bc2b6e1d4a5c789bc1537c4b1abffb"), looks := true }, kinds := [], alts := [], laidByText := true, laidKinds := [.data, .data, .data, .handle, .sentinel, .sentinel], laidTests := true, laidLooks := .later }
def PrintMakesUptoCardSaid : Prop := Claim7.holds Tryz.pinned (.plain (OpenSpec.upto printMakesSpec)) printMakesUptoCard

/-- THE SECOND FORM's CARD OF 'derricklaw03.PrintBack'. -/
def printBackUptoCard : Claim7 := { stood := { row := printBackUptoRow, standIns := [], harness := (true, "ebe2c8c9c900f5efde88b7ea2cba555410bc2b6e1d4a5c789bc1537c4b1abffb"), looks := true }, kinds := [], alts := [], laidByText := true, laidKinds := [.data, .data, .data, .handle, .sentinel, .sentinel], laidTests := true, laidLooks := .later }
def PrintBackUptoCardSaid : Prop := Claim7.holds Tryz.pinned (.plain (OpenSpec.upto printBackSpec)) printBackUptoCard

/-- THE SECOND FORM's CARD OF 'derricklaw03.PrintLines'. -/
def printLinesUptoCard : Claim7 := { stood := { row := printLinesUptoRow, standIns := [], harness := (true, "ebe2c8c9c900f5efde88b7ea2cba555410bc2b6e1d4a5c789bc1537c4b1abffb"), looks := true }, kinds := [], alts := [], laidByText := true, laidKinds := [.data, .data, .data, .handle, .sentinel, .sentinel], laidTests := true, laidLooks := .later }
def PrintLinesUptoCardSaid : Prop := Claim7.holds Tryz.pinned (.plain (OpenSpec.upto printLinesSpec)) printLinesUptoCard

/-- THE SECOND FORM's CARD OF 'derricklaw03.PrintExprs'. -/
def printExprsUptoCard : Claim7 := { stood := { row := printExprsUptoRow, standIns := [], harness := (true, "ebe2c8c9c900f5efde88b7ea2cba555410bc2b6e1d4a5c789bc1537c4b1abffb"), looks := true }, kinds := [], alts := [], laidByText := true, laidKinds := [.data, .data, .data, .handle, .sentinel, .sentinel], laidTests := true, laidLooks := .later }
def PrintExprsUptoCardSaid : Prop := Claim7.holds Tryz.pinned (.plain (OpenSpec.upto printExprsSpec)) printExprsUptoCard

/-- THE SECOND FORM's CARD OF 'derricklaw03.PrintStill'. -/
def printStillUptoCard : Claim7 := { stood := { row := printStillUptoRow, standIns := [], harness := (true, "ebe2c8c9c900f5efde88b7ea2cba555410bc2b6e1d4a5c789bc1537c4b1abffb"), looks := true }, kinds := [], alts := [], laidByText := true, laidKinds := [.data, .data, .data, .handle, .sentinel, .sentinel], laidTests := true, laidLooks := .later }
def PrintStillUptoCardSaid : Prop := Claim7.holds Tryz.pinned (.plain (OpenSpec.upto printStillSpec)) printStillUptoCard
end Rows
end Go.Proofs.YtpdkdgfknanipaaGreatDoor
