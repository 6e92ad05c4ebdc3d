/-
  DERIVED. GIVEN WITH THE SEED: THE CARDS: each row of YtoifleamknbeaaaGreatDoorRows.lean that lists a variable, with what it lists TIED to the program's text (the seventh form; the later family's looks); each row that meets fmt, with fmt's text TOLD by the authors' own Lean function (tested against real Go, not proved from fmt's source: count such statements apart). THE CARD IS WHAT COUNTS. Prove the row's statement (the work); the ties are given (YtoifleamknbeaaaGreatDoorTie.lean); close each card by the builder's one call (the guide's Derived/Test/ToyasCard.lean, 'card_holds'). Laid BY PROGRAM, IN A SANDBOX (cutbox-door.mjs). By AI agents, Wed Nov 11 2026. No macro, syntax, notation, axiom, sorry.
-/
import Derived.Test.YtoifleamknbeaaaGreatDoorRows
import GoSem.ClaimSeven
namespace Go.Proofs.YtoifleamknbeaaaGreatDoor
namespace Rows

/-- THE TIED CARD OF 'derricklaw02.ParseMakes'. -/
def parseMakesCard : Claim7 := { stood := { row := parseMakesRow, standIns := [], harness := (true, "aa9fc0096ea74467473b9e6b71c34f9d7ef86a2e0e4a38d67d3d3930de815672"), looks := true }, kinds := [], alts := [], laidByText := true, laidKinds := [.data, .data, .data, .handle, .sentinel, .sentinel], laidTests := true, laidLooks := .later }
def ParseMakesCardSaid : Prop := Claim7.holds Tryz.pinned (.plain (OpenSpec.ofChange parseMakesSpec)) parseMakesCard

/-- THE TIED CARD OF 'derricklaw02.ParseSpaced'. -/
def parseSpacedCard : Claim7 := { stood := { row := parseSpacedRow, standIns := [], harness := (true, "aa9fc0096ea74467473b9e6b71c34f9d7ef86a2e0e4a38d67d3d3930de815672"), looks := true }, kinds := [], alts := [], laidByText := true, laidKinds := [.data, .data, .data, .handle, .sentinel, .sentinel], laidTests := true, laidLooks := .later }
def ParseSpacedCardSaid : Prop := Claim7.holds Tryz.pinned (.plain (OpenSpec.ofChange parseSpacedSpec)) parseSpacedCard

/-- THE TIED CARD OF 'derricklaw02.ParseCuts'. -/
def parseCutsCard : Claim7 := { stood := { row := parseCutsRow, standIns := [], harness := (true, "aa9fc0096ea74467473b9e6b71c34f9d7ef86a2e0e4a38d67d3d3930de815672"), looks := true }, kinds := [], alts := [], laidByText := true, laidKinds := [.data, .data, .data, .handle, .sentinel, .sentinel], laidTests := true, laidLooks := .later }
def ParseCutsCardSaid : Prop := Claim7.holds Tryz.pinned (.plain (OpenSpec.ofChange parseCutsSpec)) parseCutsCard

/-- THE TIED CARD OF 'derricklaw02.ParseBinds'. -/
def parseBindsCard : Claim7 := { stood := { row := parseBindsRow, standIns := [], harness := (true, "aa9fc0096ea74467473b9e6b71c34f9d7ef86a2e0e4a38d67d3d3930de815672"), looks := true }, kinds := [], alts := [], laidByText := true, laidKinds := [.data, .data, .data, .handle, .sentinel, .sentinel], laidTests := true, laidLooks := .later }
def ParseBindsCardSaid : Prop := Claim7.holds Tryz.pinned (.plain (OpenSpec.ofChange parseBindsSpec)) parseBindsCard

/-- THE TIED CARD OF 'derricklaw02.ParseNests'. -/
def parseNestsCard : Claim7 := { stood := { row := parseNestsRow, standIns := [], harness := (true, "aa9fc0096ea74467473b9e6b71c34f9d7ef86a2e0e4a38d67d3d3930de815672"), looks := true }, kinds := [], alts := [], laidByText := true, laidKinds := [.data, .data, .data, .handle, .sentinel, .sentinel], laidTests := true, laidLooks := .later }
def ParseNestsCardSaid : Prop := Claim7.holds Tryz.pinned (.plain (OpenSpec.ofChange parseNestsSpec)) parseNestsCard

/-- THE TIED CARD OF 'derricklaw02.ParseHeads'. -/
def parseHeadsCard : Claim7 := { stood := { row := parseHeadsRow, standIns := [], harness := (true, "aa9fc0096ea74467473b9e6b71c34f9d7ef86a2e0e4a38d67d3d3930de815672"), looks := true }, kinds := [], alts := [], laidByText := true, laidKinds := [.data, .data, .data, .handle, .sentinel, .sentinel], laidTests := true, laidLooks := .later }
def ParseHeadsCardSaid : Prop := Claim7.holds Tryz.pinned (.plain (OpenSpec.ofChange parseHeadsSpec)) parseHeadsCard

/-- THE TIED CARD OF 'derricklaw02.ParseStmts'. -/
def parseStmtsCard : Claim7 := { stood := { row := parseStmtsRow, standIns := [], harness := (true, "aa9fc0096ea74467473b9e6b71c34f9d7ef86a2e0e4a38d67d3d3930de815672"), looks := true }, kinds := [], alts := [], laidByText := true, laidKinds := [.data, .data, .data, .handle, .sentinel, .sentinel], laidTests := true, laidLooks := .later }
def ParseStmtsCardSaid : Prop := Claim7.holds Tryz.pinned (.plain (OpenSpec.ofChange parseStmtsSpec)) parseStmtsCard

/-- THE TIED CARD OF 'derricklaw02.ParseJoins'. -/
def parseJoinsCard : Claim7 := { stood := { row := parseJoinsRow, standIns := [], harness := (true, "aa9fc0096ea74467473b9e6b71c34f9d7ef86a2e0e4a38d67d3d3930de815672"), looks := true }, kinds := [], alts := [], laidByText := true, laidKinds := [.data, .data, .data, .handle, .sentinel, .sentinel], laidTests := true, laidLooks := .later }
def ParseJoinsCardSaid : Prop := Claim7.holds Tryz.pinned (.plain (OpenSpec.ofChange parseJoinsSpec)) parseJoinsCard

/-- THE SECOND FORM's CARD OF 'derricklaw02.ParseMakes'. -/
def parseMakesUptoCard : Claim7 := { stood := { row := parseMakesUptoRow, standIns := [], harness := (true, "aa9fc0096ea74467473b9e6b71c34f9d7ef86a2e0e4a38d67d3d3930de815672"), looks := true }, kinds := [], alts := [], laidByText := true, laidKinds := [.data, .data, .data, .handle, .sentinel, .sentinel], laidTests := true, laidLooks := .later }
def ParseMakesUptoCardSaid : Prop := Claim7.holds Tryz.pinned (.plain (OpenSpec.upto parseMakesSpec)) parseMakesUptoCard

/-- THE SECOND FORM's CARD OF 'derricklaw02.ParseSpaced'. -/
def parseSpacedUptoCard : Claim7 := { stood := { row := parseSpacedUptoRow, standIns := [], harness := (true, "aa9fc0096ea74467473b9e6b71c34f9d7ef86a2e0e4a38d67d3d3930de815672"), looks := true }, kinds := [], alts := [], laidByText := true, laidKinds := [.data, .data, .data, .handle, .sentinel, .sentinel], laidTests := true, laidLooks := .later }
def ParseSpacedUptoCardSaid : Prop := Claim7.holds Tryz.pinned (.plain (OpenSpec.upto parseSpacedSpec)) parseSpacedUptoCard

/-- THE SECOND FORM's CARD OF 'derricklaw02.ParseCuts'. -/
def parseCutsUptoCard : Claim7 := { stood := { row := parseCutsUptoRow, standIns := [], harness := (true, "aa9fc0096ea74467473b9e6b71c34f9d7ef86a2e0e4a38d67d3d3930de815672"), looks := true }, kinds := [], alts := [], laidByText := true, laidKinds := [.data, .data, .data, .handle, .sentinel, .sentinel], laidTests := true, laidLooks := .later }
def ParseCutsUptoCardSaid : Prop := Claim7.holds Tryz.pinned (.plain (OpenSpec.upto parseCutsSpec)) parseCutsUptoCard

/-- THE SECOND FORM's CARD OF 'derricklaw02.ParseBinds'. -/
def parseBindsUptoCard : Claim7 := { stood := { row := parseBindsUptoRow, standIns := [], harness := (true, "aa9fc0096ea74467473b9e6b71c34f9d7ef86a2e0e4a38d67d3d3930de815672"), looks := true }, kinds := [], alts := [], laidByText := true, laidKinds := [.data, .data, .data, .handle, .sentinel, .sentinel], laidTests := true, laidLooks := .later }
def ParseBindsUptoCardSaid : Prop := Claim7.holds Tryz.pinned (.plain (OpenSpec.upto parseBindsSpec)) parseBindsUptoCard

/-- THE SECOND FORM's CARD OF 'derricklaw02.ParseNests'. -/
def parseNestsUptoCard : Claim7 := { stood := { row := parseNestsUptoRow, standIns := [], harness := (true, "aa9fc0096ea74467473b9e6b71c34f9d7ef86a2e0e4a38d67d3d3930de815672"), looks := true }, kinds := [], alts := [], laidByText := true, laidKinds := [.data, .data, .data, .handle, .sentinel, .sentinel], laidTests := true, laidLooks := .later }
def ParseNestsUptoCardSaid : Prop := Claim7.holds Tryz.pinned (.plain (OpenSpec.upto parseNestsSpec)) parseNestsUptoCard

/-- THE SECOND FORM's CARD OF 'derricklaw02.ParseHeads'. -/
def parseHeadsUptoCard : Claim7 := { stood := { row := parseHeadsUptoRow, standIns := [], harness := (true, "aa9fc0096ea74467473b9e6b71c34f9d7ef86a2e0e4a38d67d3d3930de815672"), looks := true }, kinds := [], alts := [], laidByText := true, laidKinds := [.data, .data, .data, .handle, .sentinel, .sentinel], laidTests := true, laidLooks := .later }
def ParseHeadsUptoCardSaid : Prop := Claim7.holds Tryz.pinned (.plain (OpenSpec.upto parseHeadsSpec)) parseHeadsUptoCard

/-- THE SECOND FORM's CARD OF 'derricklaw02.ParseStmts'. -/
def parseStmtsUptoCard : Claim7 := { stood := { row := parseStmtsUptoRow, standIns := [], harness := (true, "aa9fc0096ea74467473b9e6b71c34f9d7ef86a2e0e4a38d67d3d3930de815672"), looks := true }, kinds := [], alts := [], laidByText := true, laidKinds := [.data, .data, .data, .handle, .sentinel, .sentinel], laidTests := true, laidLooks := .later }
def ParseStmtsUptoCardSaid : Prop := Claim7.holds Tryz.pinned (.plain (OpenSpec.upto parseStmtsSpec)) parseStmtsUptoCard

/-- THE SECOND FORM's CARD OF 'derricklaw02.ParseJoins'. -/
def parseJoinsUptoCard : Claim7 := { stood := { row := parseJoinsUptoRow, standIns := [], harness := (true, "aa9fc0096ea74467473b9e6b71c34f9d7ef86a2e0e4a38d67d3d3930de815672"), looks := true }, kinds := [], alts := [], laidByText := true, laidKinds := [.data, .data, .data, .handle, .sentinel, .sentinel], laidTests := true, laidLooks := .later }
def ParseJoinsUptoCardSaid : Prop := Claim7.holds Tryz.pinned (.plain (OpenSpec.upto parseJoinsSpec)) parseJoinsUptoCard
end Rows
end Go.Proofs.YtoifleamknbeaaaGreatDoor
