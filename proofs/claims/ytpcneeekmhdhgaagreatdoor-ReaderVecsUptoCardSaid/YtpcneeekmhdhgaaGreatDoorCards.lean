/-
  DERIVED. GIVEN WITH THE SEED: THE CARDS: each row of YtpcneeekmhdhgaaGreatDoorRows.lean that lists a variable, with what it lists TIED to the program's text (the seventh form; the later family's looks); each row that meets fmt, with fmt's text TOLD by the authors' own Lean function (tested against real Go, not proved from fmt's source: count such statements apart). THE CARD IS WHAT COUNTS. Prove the row's statement (the work); the ties are given (YtpcneeekmhdhgaaGreatDoorTie.lean); close each card by the builder's one call (the guide's Derived/Test/ToyasCard.lean, 'card_holds'). Laid BY PROGRAM, IN A SANDBOX (cutbox-door.mjs). By AI agents, Wed Nov 11 2026. No macro, syntax, notation, axiom, sorry.
-/
import Derived.Test.YtpcneeekmhdhgaaGreatDoorRows
import GoSem.ClaimSeven
namespace Go.Proofs.YtpcneeekmhdhgaaGreatDoor
namespace Rows

/-- THE TIED CARD OF 'corbellaw03.ReaderReads'. -/
def readerReadsCard : Claim7 := { stood := { row := readerReadsRow, standIns := [], harness := (true, "fcfc0af42a52d37555600021373f67a929d64a75e1f191a815c789976f0eb934"), looks := true }, kinds := [], alts := [], laidByText := true, laidKinds := [.data, .data, .data, .data, .sentinel, .sentinel, .pinned], laidTests := true, laidLooks := .later }
def ReaderReadsCardSaid : Prop := Claim7.holds Tryz.pinned (.plain (OpenSpec.ofChange readerReadsSpec)) readerReadsCard

/-- THE TIED CARD OF 'corbellaw03.ReaderBlanks'. -/
def readerBlanksCard : Claim7 := { stood := { row := readerBlanksRow, standIns := [], harness := (true, "fcfc0af42a52d37555600021373f67a929d64a75e1f191a815c789976f0eb934"), looks := true }, kinds := [], alts := [], laidByText := true, laidKinds := [.data, .data, .data, .data, .sentinel, .sentinel, .pinned], laidTests := true, laidLooks := .later }
def ReaderBlanksCardSaid : Prop := Claim7.holds Tryz.pinned (.plain (OpenSpec.ofChange readerBlanksSpec)) readerBlanksCard

/-- THE TIED CARD OF 'corbellaw03.ReaderNumbers'. -/
def readerNumbersCard : Claim7 := { stood := { row := readerNumbersRow, standIns := [], harness := (true, "fcfc0af42a52d37555600021373f67a929d64a75e1f191a815c789976f0eb934"), looks := true }, kinds := [], alts := [], laidByText := true, laidKinds := [.data, .data, .data, .data, .sentinel, .sentinel, .pinned], laidTests := true, laidLooks := .later }
def ReaderNumbersCardSaid : Prop := Claim7.holds Tryz.pinned (.plain (OpenSpec.ofChange readerNumbersSpec)) readerNumbersCard

/-- THE TIED CARD OF 'corbellaw03.ReaderVecs'. -/
def readerVecsCard : Claim7 := { stood := { row := readerVecsRow, standIns := [], harness := (true, "fcfc0af42a52d37555600021373f67a929d64a75e1f191a815c789976f0eb934"), looks := true }, kinds := [], alts := [], laidByText := true, laidKinds := [.data, .data, .data, .data, .sentinel, .sentinel, .pinned], laidTests := true, laidLooks := .later }
def ReaderVecsCardSaid : Prop := Claim7.holds Tryz.pinned (.plain (OpenSpec.ofChange readerVecsSpec)) readerVecsCard

/-- THE TIED CARD OF 'corbellaw04.SyntaxExpands'. -/
def syntaxExpandsCard : Claim7 := { stood := { row := syntaxExpandsRow, standIns := [], harness := (true, "fcfc0af42a52d37555600021373f67a929d64a75e1f191a815c789976f0eb934"), looks := true }, kinds := [], alts := [], laidByText := true, laidKinds := [.data, .data, .data, .data, .sentinel, .sentinel, .pinned], laidTests := true, laidLooks := .later }
def SyntaxExpandsCardSaid : Prop := Claim7.holds Tryz.pinned (.plain (OpenSpec.ofChange syntaxExpandsSpec)) syntaxExpandsCard

/-- THE TIED CARD OF 'corbellaw04.SyntaxTexts'. -/
def syntaxTextsCard : Claim7 := { stood := { row := syntaxTextsRow, standIns := [], harness := (true, "fcfc0af42a52d37555600021373f67a929d64a75e1f191a815c789976f0eb934"), looks := true }, kinds := [], alts := [], laidByText := true, laidKinds := [.data, .data, .data, .data, .sentinel, .sentinel, .pinned], laidTests := true, laidLooks := .later }
def SyntaxTextsCardSaid : Prop := Claim7.holds Tryz.pinned (.plain (OpenSpec.ofChange syntaxTextsSpec)) syntaxTextsCard

/-- THE TIED CARD OF 'corbellaw04.SyntaxNests'. -/
def syntaxNestsCard : Claim7 := { stood := { row := syntaxNestsRow, standIns := [], harness := (true, "fcfc0af42a52d37555600021373f67a929d64a75e1f191a815c789976f0eb934"), looks := true }, kinds := [], alts := [], laidByText := true, laidKinds := [.data, .data, .data, .data, .sentinel, .sentinel, .pinned], laidTests := true, laidLooks := .later }
def SyntaxNestsCardSaid : Prop := Claim7.holds Tryz.pinned (.plain (OpenSpec.ofChange syntaxNestsSpec)) syntaxNestsCard

/-- THE TIED CARD OF 'corbellaw04.SyntaxCores'. -/
def syntaxCoresCard : Claim7 := { stood := { row := syntaxCoresRow, standIns := [], harness := (true, "fcfc0af42a52d37555600021373f67a929d64a75e1f191a815c789976f0eb934"), looks := true }, kinds := [], alts := [], laidByText := true, laidKinds := [.data, .data, .data, .data, .sentinel, .sentinel, .pinned], laidTests := true, laidLooks := .later }
def SyntaxCoresCardSaid : Prop := Claim7.holds Tryz.pinned (.plain (OpenSpec.ofChange syntaxCoresSpec)) syntaxCoresCard

/-- THE TIED CARD OF 'corbellaw04.SyntaxMakes'. -/
def syntaxMakesCard : Claim7 := { stood := { row := syntaxMakesRow, standIns := [], harness := (true, "fcfc0af42a52d37555600021373f67a929d64a75e1f191a815c789976f0eb934"), looks := true }, kinds := [], alts := [], laidByText := true, laidKinds := [.data, .data, .data, .data, .sentinel, .sentinel, .pinned], laidTests := true, laidLooks := .later }
def SyntaxMakesCardSaid : Prop := Claim7.holds Tryz.pinned (.plain (OpenSpec.ofChange syntaxMakesSpec)) syntaxMakesCard

/-- THE SECOND FORM's CARD OF 'corbellaw03.ReaderReads'. -/
def readerReadsUptoCard : Claim7 := { stood := { row := readerReadsUptoRow, standIns := [], harness := (true, "fcfc0af42a52d37555600021373f67a929d64a75e1f191a815c789976f0eb934"), looks := true }, kinds := [], alts := [], laidByText := true, laidKinds := [.data, .data, .data, .data, .sentinel, .sentinel, .pinned], laidTests := true, laidLooks := .later }
def ReaderReadsUptoCardSaid : Prop := Claim7.holds Tryz.pinned (.plain (OpenSpec.upto readerReadsSpec)) readerReadsUptoCard

/-- THE SECOND FORM's CARD OF 'corbellaw03.ReaderBlanks'. -/
def readerBlanksUptoCard : Claim7 := { stood := { row := readerBlanksUptoRow, standIns := [], harness := (true, "fcfc0af42a52d37555600021373f67a929d64a75e1f191a815c789976f0eb934"), looks := true }, kinds := [], alts := [], laidByText := true, laidKinds := [.data, .data, .data, .data, .sentinel, .sentinel, .pinned], laidTests := true, laidLooks := .later }
def ReaderBlanksUptoCardSaid : Prop := Claim7.holds Tryz.pinned (.plain (OpenSpec.upto readerBlanksSpec)) readerBlanksUptoCard

/-- THE SECOND FORM's CARD OF 'corbellaw03.ReaderNumbers'. -/
def readerNumbersUptoCard : Claim7 := { stood := { row := readerNumbersUptoRow, standIns := [], harness := (true, "fcfc0af42a52d37555600021373f67a929d64a75e1f191a815c789976f0eb934"), looks := true }, kinds := [], alts := [], laidByText := true, laidKinds := [.data, .data, .data, .data, .sentinel, .sentinel, .pinned], laidTests := true, laidLooks := .later }
def ReaderNumbersUptoCardSaid : Prop := Claim7.holds Tryz.pinned (.plain (OpenSpec.upto readerNumbersSpec)) readerNumbersUptoCard

/-- THE SECOND FORM's CARD OF 'corbellaw03.ReaderVecs'. -/
def readerVecsUptoCard : Claim7 := { stood := { row := readerVecsUptoRow, standIns := [], harness := (true, "fcfc0af42a52d37555600021373f67a929d64a75e1f191a815c789976f0eb934"), looks := true }, kinds := [], alts := [], laidByText := true, laidKinds := [.data, .data, .data, .data, .sentinel, .sentinel, .pinned], laidTests := true, laidLooks := .later }
def ReaderVecsUptoCardSaid : Prop := Claim7.holds Tryz.pinned (.plain (OpenSpec.upto readerVecsSpec)) readerVecsUptoCard

/-- THE SECOND FORM's CARD OF 'corbellaw04.SyntaxExpands'. -/
def syntaxExpandsUptoCard : Claim7 := { stood := { row := syntaxExpandsUptoRow, standIns := [], harness := (true, "fcfc0af42a52d37555600021373f67a929d64a75e1f191a815c789976f0eb934"), looks := true }, kinds := [], alts := [], laidByText := true, laidKinds := [.data, .data, .data, .data, .sentinel, .sentinel, .pinned], laidTests := true, laidLooks := .later }
def SyntaxExpandsUptoCardSaid : Prop := Claim7.holds Tryz.pinned (.plain (OpenSpec.upto syntaxExpandsSpec)) syntaxExpandsUptoCard

/-- THE SECOND FORM's CARD OF 'corbellaw04.SyntaxTexts'. -/
def syntaxTextsUptoCard : Claim7 := { stood := { row := syntaxTextsUptoRow, standIns := [], harness := (true, "fcfc0af42a52d37555600021373f67a929d64a75e1f191a815c789976f0eb934"), looks := true }, kinds := [], alts := [], laidByText := true, laidKinds := [.data, .data, .data, .data, .sentinel, .sentinel, .pinned], laidTests := true, laidLooks := .later }
def SyntaxTextsUptoCardSaid : Prop := Claim7.holds Tryz.pinned (.plain (OpenSpec.upto syntaxTextsSpec)) syntaxTextsUptoCard

/-- THE SECOND FORM's CARD OF 'corbellaw04.SyntaxNests'. -/
def syntaxNestsUptoCard : Claim7 := { stood := { row := syntaxNestsUptoRow, standIns := [], harness := (true, "fcfc0af42a52d37555600021373f67a929d64a75e1f191a815c789976f0eb934"), looks := true }, kinds := [], alts := [], laidByText := true, laidKinds := [.data, .data, .data, .data, .sentinel, .sentinel, .pinned], laidTests := true, laidLooks := .later }
def SyntaxNestsUptoCardSaid : Prop := Claim7.holds Tryz.pinned (.plain (OpenSpec.upto syntaxNestsSpec)) syntaxNestsUptoCard

/-- THE SECOND FORM's CARD OF 'corbellaw04.SyntaxCores'. -/
def syntaxCoresUptoCard : Claim7 := { stood := { row := syntaxCoresUptoRow, standIns := [], harness := (true, "fcfc0af42a52d37555600021373f67a929d64a75e1f191a815c789976f0eb934"), looks := true }, kinds := [], alts := [], laidByText := true, laidKinds := [.data, .data, .data, .data, .sentinel, .sentinel, .pinned], laidTests := true, laidLooks := .later }
def SyntaxCoresUptoCardSaid : Prop := Claim7.holds Tryz.pinned (.plain (OpenSpec.upto syntaxCoresSpec)) syntaxCoresUptoCard

/-- THE SECOND FORM's CARD OF 'corbellaw04.SyntaxMakes'. -/
def syntaxMakesUptoCard : Claim7 := { stood := { row := syntaxMakesUptoRow, standIns := [], harness := (true, "fcfc0af42a52d37555600021373f67a929d64a75e1f191a815c789976f0eb934"), looks := true }, kinds := [], alts := [], laidByText := true, laidKinds := [.data, .data, .data, .data, .sentinel, .sentinel, .pinned], laidTests := true, laidLooks := .later }
def SyntaxMakesUptoCardSaid : Prop := Claim7.holds Tryz.pinned (.plain (OpenSpec.upto syntaxMakesSpec)) syntaxMakesUptoCard
end Rows
end Go.Proofs.YtpcneeekmhdhgaaGreatDoor
