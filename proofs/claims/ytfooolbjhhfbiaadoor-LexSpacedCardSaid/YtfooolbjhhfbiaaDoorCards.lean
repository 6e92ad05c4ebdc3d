/-
  DERIVED. GIVEN WITH THE SEED: THE CARDS: each row of YtfooolbjhhfbiaaDoorRows.lean that lists a variable, with what it lists TIED to the program's text (the seventh form; the later family's looks); each row that meets fmt, with fmt's text TOLD by the authors' own Lean function (tested against real Go, not proved from fmt's source: count such statements apart). THE CARD IS WHAT COUNTS. Prove the row's statement (the work); the ties are given (YtfooolbjhhfbiaaDoorTie.lean); close each card by the builder's one call (the guide's Derived/Test/ToyasCard.lean, 'card_holds'). Laid BY PROGRAM, IN A SANDBOX (cutbox-door.mjs). By AI agents, Wed Nov 11 2026. No macro, syntax, notation, axiom, sorry.
-/
import Derived.Test.YtfooolbjhhfbiaaDoorRows
import GoSem.ClaimSeven
namespace Go.Proofs.YtfooolbjhhfbiaaDoor
namespace Rows

/-- THE TIED CARD OF 'derricklaw01.LexSpaced'. -/
def lexSpacedCard : Claim7 := { stood := { row := lexSpacedRow, standIns := [], harness := (true, "d26ec4fb9fb6ca54936da4bced4a19abc4c2bb04da83a182c28902f06a8170cb"), looks := true }, kinds := [], alts := [], laidByText := true, laidKinds := [.data, .data, .data, .handle, .sentinel, .sentinel], laidTests := true, laidLooks := .later }
def LexSpacedCardSaid : Prop := Claim7.holds Tryd.pinned (.plain (OpenSpec.ofChange lexSpacedSpec)) lexSpacedCard

/-- THE TIED CARD OF 'derricklaw01.LexQuotes'. -/
def lexQuotesCard : Claim7 := { stood := { row := lexQuotesRow, standIns := [], harness := (true, "d26ec4fb9fb6ca54936da4bced4a19abc4c2bb04da83a182c28902f06a8170cb"), looks := true }, kinds := [], alts := [], laidByText := true, laidKinds := [.data, .data, .data, .handle, .sentinel, .sentinel], laidTests := true, laidLooks := .later }
def LexQuotesCardSaid : Prop := Claim7.holds Tryd.pinned (.plain (OpenSpec.ofChange lexQuotesSpec)) lexQuotesCard

/-- THE TIED CARD OF 'derricklaw01.LexNests'. -/
def lexNestsCard : Claim7 := { stood := { row := lexNestsRow, standIns := [], harness := (true, "d26ec4fb9fb6ca54936da4bced4a19abc4c2bb04da83a182c28902f06a8170cb"), looks := true }, kinds := [], alts := [], laidByText := true, laidKinds := [.data, .data, .data, .handle, .sentinel, .sentinel], laidTests := true, laidLooks := .later }
def LexNestsCardSaid : Prop := Claim7.holds Tryd.pinned (.plain (OpenSpec.ofChange lexNestsSpec)) lexNestsCard

/-- THE TIED CARD OF 'derricklaw01.LexJoins'. -/
def lexJoinsCard : Claim7 := { stood := { row := lexJoinsRow, standIns := [], harness := (true, "d26ec4fb9fb6ca54936da4bced4a19abc4c2bb04da83a182c28902f06a8170cb"), looks := true }, kinds := [], alts := [], laidByText := true, laidKinds := [.data, .data, .data, .handle, .sentinel, .sentinel], laidTests := true, laidLooks := .later }
def LexJoinsCardSaid : Prop := Claim7.holds Tryd.pinned (.plain (OpenSpec.ofChange lexJoinsSpec)) lexJoinsCard

/-- THE TIED CARD OF 'derricklaw01.LexNames'. -/
def lexNamesCard : Claim7 := { stood := { row := lexNamesRow, standIns := [], harness := (true, "d26ec4fb9fb6ca54936da4bced4a19abc4c2bb04da83a182c28902f06a8170cb"), looks := true }, kinds := [], alts := [], laidByText := true, laidKinds := [.data, .data, .data, .handle, .sentinel, .sentinel], laidTests := true, laidLooks := .later }
def LexNamesCardSaid : Prop := Claim7.holds Tryd.pinned (.plain (OpenSpec.ofChange lexNamesSpec)) lexNamesCard

/-- THE TIED CARD OF 'derricklaw01.LexInts'. -/
def lexIntsCard : Claim7 := { stood := { row := lexIntsRow, standIns := [], harness := (true, "d26ec4fb9fb6ca54936da4bced4a19abc4c2bb04da83a182c28902f06a8170cb"), looks := true }, kinds := [], alts := [], laidByText := true, laidKinds := [.data, .data, .data, .handle, .sentinel, .sentinel], laidTests := true, laidLooks := .later }
def LexIntsCardSaid : Prop := Claim7.holds Tryd.pinned (.plain (OpenSpec.ofChange lexIntsSpec)) lexIntsCard

/-- THE TIED CARD OF 'derricklaw01.LexMarks'. -/
def lexMarksCard : Claim7 := { stood := { row := lexMarksRow, standIns := [], harness := (true, "d26ec4fb9fb6ca54936da4bced4a19abc4c2bb04da83a182c28902f06a8170cb"), looks := true }, kinds := [], alts := [], laidByText := true, laidKinds := [.data, .data, .data, .handle, .sentinel, .sentinel], laidTests := true, laidLooks := .later }
def LexMarksCardSaid : Prop := Claim7.holds Tryd.pinned (.plain (OpenSpec.ofChange lexMarksSpec)) lexMarksCard

/-- THE SECOND FORM's CARD OF 'derricklaw01.LexSpaced'. -/
def lexSpacedUptoCard : Claim7 := { stood := { row := lexSpacedUptoRow, standIns := [], harness := (true, "d26ec4fb9fb6ca54936da4bced4a19abc4c2bb04da83a182c28902f06a8170cb"), looks := true }, kinds := [], alts := [], laidByText := true, laidKinds := [.data, .data, .data, .handle, .sentinel, .sentinel], laidTests := true, laidLooks := .later }
def LexSpacedUptoCardSaid : Prop := Claim7.holds Tryd.pinned (.plain (OpenSpec.upto lexSpacedSpec)) lexSpacedUptoCard

/-- THE SECOND FORM's CARD OF 'derricklaw01.LexQuotes'. -/
def lexQuotesUptoCard : Claim7 := { stood := { row := lexQuotesUptoRow, standIns := [], harness := (true, "d26ec4fb9fb6ca54936da4bced4a19abc4c2bb04da83a182c28902f06a8170cb"), looks := true }, kinds := [], alts := [], laidByText := true, laidKinds := [.data, .data, .data, .handle, .sentinel, .sentinel], laidTests := true, laidLooks := .later }
def LexQuotesUptoCardSaid : Prop := Claim7.holds Tryd.pinned (.plain (OpenSpec.upto lexQuotesSpec)) lexQuotesUptoCard

/-- THE SECOND FORM's CARD OF 'derricklaw01.LexNests'. -/
def lexNestsUptoCard : Claim7 := { stood := { row := lexNestsUptoRow, standIns := [], harness := (true, "d26ec4fb9fb6ca54936da4bced4a19abc4c2bb04da83a182c28902f06a8170cb"), looks := true }, kinds := [], alts := [], laidByText := true, laidKinds := [.data, .data, .data, .handle, .sentinel, .sentinel], laidTests := true, laidLooks := .later }
def LexNestsUptoCardSaid : Prop := Claim7.holds Tryd.pinned (.plain (OpenSpec.upto lexNestsSpec)) lexNestsUptoCard

/-- THE SECOND FORM's CARD OF 'derricklaw01.LexJoins'. -/
def lexJoinsUptoCard : Claim7 := { stood := { row := lexJoinsUptoRow, standIns := [], harness := (true, "d26ec4fb9fb6ca54936da4bced4a19abc4c2bb04da83a182c28902f06a8170cb"), looks := true }, kinds := [], alts := [], laidByText := true, laidKinds := [.data, .data, .data, .handle, .sentinel, .sentinel], laidTests := true, laidLooks := .later }
def LexJoinsUptoCardSaid : Prop := Claim7.holds Tryd.pinned (.plain (OpenSpec.upto lexJoinsSpec)) lexJoinsUptoCard

/-- THE SECOND FORM's CARD OF 'derricklaw01.LexNames'. -/
def lexNamesUptoCard : Claim7 := { stood := { row := lexNamesUptoRow, standIns := [], harness := (true, "d26ec4fb9fb6ca54936da4bced4a19abc4c2bb04da83a182c28902f06a8170cb"), looks := true }, kinds := [], alts := [], laidByText := true, laidKinds := [.data, .data, .data, .handle, .sentinel, .sentinel], laidTests := true, laidLooks := .later }
def LexNamesUptoCardSaid : Prop := Claim7.holds Tryd.pinned (.plain (OpenSpec.upto lexNamesSpec)) lexNamesUptoCard

/-- THE SECOND FORM's CARD OF 'derricklaw01.LexInts'. -/
def lexIntsUptoCard : Claim7 := { stood := { row := lexIntsUptoRow, standIns := [], harness := (true, "d26ec4fb9fb6ca54936da4bced4a19abc4c2bb04da83a182c28902f06a8170cb"), looks := true }, kinds := [], alts := [], laidByText := true, laidKinds := [.data, .data, .data, .handle, .sentinel, .sentinel], laidTests := true, laidLooks := .later }
def LexIntsUptoCardSaid : Prop := Claim7.holds Tryd.pinned (.plain (OpenSpec.upto lexIntsSpec)) lexIntsUptoCard

/-- THE SECOND FORM's CARD OF 'derricklaw01.LexMarks'. -/
def lexMarksUptoCard : Claim7 := { stood := { row := lexMarksUptoRow, standIns := [], harness := (true, "d26ec4fb9fb6ca54936da4bced4a19abc4c2bb04da83a182c28902f06a8170cb"), looks := true }, kinds := [], alts := [], laidByText := true, laidKinds := [.data, .data, .data, .handle, .sentinel, .sentinel], laidTests := true, laidLooks := .later }
def LexMarksUptoCardSaid : Prop := Claim7.holds Tryd.pinned (.plain (OpenSpec.upto lexMarksSpec)) lexMarksUptoCard
end Rows
end Go.Proofs.YtfooolbjhhfbiaaDoor
