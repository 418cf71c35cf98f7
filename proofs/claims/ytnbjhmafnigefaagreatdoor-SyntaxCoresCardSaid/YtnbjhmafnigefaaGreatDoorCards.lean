/-
  DERIVED. GIVEN WITH THE SEED: THE CARDS: each row of YtnbjhmafnigefaaGreatDoorRows.lean that lists a variable, with what it lists TIED to the program's text (the seventh form; the later family's looks); each row that meets fmt, with fmt's text TOLD by the authors' own Lean function (tested against real Go, not proved from fmt's source: count such statements apart). THE CARD IS WHAT COUNTS. Prove the row's statement (the work); the ties are given (YtnbjhmafnigefaaGreatDoorTie.lean); close each card by the builder's one call (the guide's Derived/Test/ToyasCard.lean, 'card_holds'). Laid BY PROGRAM, IN A SANDBOX (cutbox-door.mjs). By AI agents, Wed Nov 11 2026. No macro, syntax, notation, axiom, sorry.
-/
import Derived.Test.YtnbjhmafnigefaaGreatDoorRows
import GoSem.ClaimSeven
namespace Go.Proofs.YtnbjhmafnigefaaGreatDoor
namespace Rows

/-- THE TIED CARD OF 'corbellaw04.SyntaxExpands'. -/
def syntaxExpandsCard : Claim7 := { stood := { row := syntaxExpandsRow, standIns := [], harness := (true, "6db07d1a825c54751231ba2f6338b3efea1c4bec85fdc1ef543759fae8c684b8"), looks := true }, kinds := [], alts := [], laidByText := true, laidKinds := [.data, .data, .data, .data, .sentinel, .sentinel, .pinned], laidTests := true, laidLooks := .later }
def SyntaxExpandsCardSaid : Prop := Claim7.holds Tryz.pinned (.plain (OpenSpec.ofChange syntaxExpandsSpec)) syntaxExpandsCard

/-- THE TIED CARD OF 'corbellaw04.SyntaxTexts'. -/
def syntaxTextsCard : Claim7 := { stood := { row := syntaxTextsRow, standIns := [], harness := (true, "6db07d1a825c54751231ba2f6338b3efea1c4bec85fdc1ef543759fae8c684b8"), looks := true }, kinds := [], alts := [], laidByText := true, laidKinds := [.data, .data, .data, .data, .sentinel, .sentinel, .pinned], laidTests := true, laidLooks := .later }
def SyntaxTextsCardSaid : Prop := Claim7.holds Tryz.pinned (.plain (OpenSpec.ofChange syntaxTextsSpec)) syntaxTextsCard

/-- THE TIED CARD OF 'corbellaw04.SyntaxNests'. -/
def syntaxNestsCard : Claim7 := { stood := { row := syntaxNestsRow, standIns := [], harness := (true, "6db07d1a825c54751231ba2f6338b3efea1c4bec85fdc1ef543759fae8c684b8"), looks := true }, kinds := [], alts := [], laidByText := true, laidKinds := [.data, .data, .data, .data, .sentinel, .sentinel, .pinned], laidTests := true, laidLooks := .later }
def SyntaxNestsCardSaid : Prop := Claim7.holds Tryz.pinned (.plain (OpenSpec.ofChange syntaxNestsSpec)) syntaxNestsCard

/-- THE TIED CARD OF 'corbellaw04.SyntaxCores'. -/
def syntaxCoresCard : Claim7 := { stood := { row := syntaxCoresRow, standIns := [], harness := (true, "6db07d1a825c54751231ba2f6338b3efea1c4bec85fdc1ef543759fae8c684b8"), looks := true }, kinds := [], alts := [], laidByText := true, laidKinds := [.data, .data, .data, .data, .sentinel, .sentinel, .pinned], laidTests := true, laidLooks := .later }
def SyntaxCoresCardSaid : Prop := Claim7.holds Tryz.pinned (.plain (OpenSpec.ofChange syntaxCoresSpec)) syntaxCoresCard

/-- THE TIED CARD OF 'corbellaw04.SyntaxMakes'. -/
def syntaxMakesCard : Claim7 := { stood := { row := syntaxMakesRow, standIns := [], harness := (true, "6db07d1a825c54751231ba2f6338b3efea1c4bec85fdc1ef543759fae8c684b8"), looks := true }, kinds := [], alts := [], laidByText := true, laidKinds := [.data, .data, .data, .data, .sentinel, .sentinel, .pinned], laidTests := true, laidLooks := .later }
def SyntaxMakesCardSaid : Prop := Claim7.holds Tryz.pinned (.plain (OpenSpec.ofChange syntaxMakesSpec)) syntaxMakesCard

/-- THE SECOND FORM's CARD OF 'corbellaw04.SyntaxExpands'. -/
def syntaxExpandsUptoCard : Claim7 := { stood := { row := syntaxExpandsUptoRow, standIns := [], harness := (true, "6db07d1a825c54751231ba2f6338b3efea1c4bec85fdc1ef543759fae8c684b8"), looks := true }, kinds := [], alts := [], laidByText := true, laidKinds := [.data, .data, .data, .data, .sentinel, .sentinel, .pinned], laidTests := true, laidLooks := .later }
def SyntaxExpandsUptoCardSaid : Prop := Claim7.holds Tryz.pinned (.plain (OpenSpec.upto syntaxExpandsSpec)) syntaxExpandsUptoCard

/-- THE SECOND FORM's CARD OF 'corbellaw04.SyntaxTexts'. -/
def syntaxTextsUptoCard : Claim7 := { stood := { row := syntaxTextsUptoRow, standIns := [], harness := (true, "6db07d1a825c54751231ba2f6338b3efea1c4bec85fdc1ef543759fae8c684b8"), looks := true }, kinds := [], alts := [], laidByText := true, laidKinds := [.data, .data, .data, .data, .sentinel, .sentinel, .pinned], laidTests := true, laidLooks := .later }
def SyntaxTextsUptoCardSaid : Prop := Claim7.holds Tryz.pinned (.plain (OpenSpec.upto syntaxTextsSpec)) syntaxTextsUptoCard

/-- THE SECOND FORM's CARD OF 'corbellaw04.SyntaxNests'. -/
def syntaxNestsUptoCard : Claim7 := { stood := { row := syntaxNestsUptoRow, standIns := [], harness := (true, "6db07d1a825c54751231ba2f6338b3efea1c4bec85fdc1ef543759fae8c684b8"), looks := true }, kinds := [], alts := [], laidByText := true, laidKinds := [.data, .data, .data, .data, .sentinel, .sentinel, .pinned], laidTests := true, laidLooks := .later }
def SyntaxNestsUptoCardSaid : Prop := Claim7.holds Tryz.pinned (.plain (OpenSpec.upto syntaxNestsSpec)) syntaxNestsUptoCard

/-- THE SECOND FORM's CARD OF 'corbellaw04.SyntaxCores'. -/
def syntaxCoresUptoCard : Claim7 := { stood := { row := syntaxCoresUptoRow, standIns := [], harness := (true, "6db07d1a825c54751231ba2f6338b3efea1c4bec85fdc1ef543759fae8c684b8"), looks := true }, kinds := [], alts := [], laidByText := true, laidKinds := [.data, .data, .data, .data, .sentinel, .sentinel, .pinned], laidTests := true, laidLooks := .later }
def SyntaxCoresUptoCardSaid : Prop := Claim7.holds Tryz.pinned (.plain (OpenSpec.upto syntaxCoresSpec)) syntaxCoresUptoCard

/-- THE SECOND FORM's CARD OF 'corbellaw04.SyntaxMakes'. -/
def syntaxMakesUptoCard : Claim7 := { stood := { row := syntaxMakesUptoRow, standIns := [], harness := (true, "6db07d1a825c54751231ba2f6338b3efea1c4bec85fdc1ef543759fae8c684b8"), looks := true }, kinds := [], alts := [], laidByText := true, laidKinds := [.data, .data, .data, .data, .sentinel, .sentinel, .pinned], laidTests := true, laidLooks := .later }
def SyntaxMakesUptoCardSaid : Prop := Claim7.holds Tryz.pinned (.plain (OpenSpec.upto syntaxMakesSpec)) syntaxMakesUptoCard
end Rows
end Go.Proofs.YtnbjhmafnigefaaGreatDoor
