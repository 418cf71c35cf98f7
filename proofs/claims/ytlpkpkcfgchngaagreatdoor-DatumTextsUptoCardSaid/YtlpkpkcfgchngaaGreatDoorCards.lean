/-
  DERIVED. GIVEN WITH THE SEED: THE CARDS: each row of YtlpkpkcfgchngaaGreatDoorRows.lean that lists a variable, with what it lists TIED to the program's text (the seventh form; the later family's looks); each row that meets fmt, with fmt's text TOLD by the authors' own Lean function (tested against real Go, not proved from fmt's source: count such statements apart). THE CARD IS WHAT COUNTS. Prove the row's statement (the work); the ties are given (YtlpkpkcfgchngaaGreatDoorTie.lean); close each card by the builder's one call (the guide's Derived/Test/ToyasCard.lean, 'card_holds'). Laid BY PROGRAM, IN A SANDBOX (cutbox-door.mjs). By AI agents, Wed Nov 11 2026. No macro, syntax, notation, axiom, sorry.
-/
import Derived.Test.YtlpkpkcfgchngaaGreatDoorRows
import GoSem.ClaimSeven
namespace Go.Proofs.YtlpkpkcfgchngaaGreatDoor
namespace Rows

/-- THE TIED CARD OF 'corbellaw02.DatumRight'. -/
def datumRightCard : Claim7 := { stood := { row := datumRightRow, standIns := [], harness := (true, "c55dc3ed051fb601288ce9dd1366f066022422e132413e0e1c1990440f6b9125"), looks := true }, kinds := [], alts := [], laidByText := true, laidKinds := [.data, .data, .data, .data, .sentinel, .sentinel, .pinned], laidTests := true, laidLooks := .later }
def DatumRightCardSaid : Prop := Claim7.holds Tryz.pinned (.plain (OpenSpec.ofChange datumRightSpec)) datumRightCard

/-- THE TIED CARD OF 'corbellaw02.DatumTexts'. -/
def datumTextsCard : Claim7 := { stood := { row := datumTextsRow, standIns := [], harness := (true, "c55dc3ed051fb601288ce9dd1366f066022422e132413e0e1c1990440f6b9125"), looks := true }, kinds := [], alts := [], laidByText := true, laidKinds := [.data, .data, .data, .data, .sentinel, .sentinel, .pinned], laidTests := true, laidLooks := .later }
def DatumTextsCardSaid : Prop := Claim7.holds Tryz.pinned (.plain (OpenSpec.ofChange datumTextsSpec)) datumTextsCard

/-- THE TIED CARD OF 'corbellaw02.DatumSame'. -/
def datumSameCard : Claim7 := { stood := { row := datumSameRow, standIns := [], harness := (true, "c55dc3ed051fb601288ce9dd1366f066022422e132413e0e1c1990440f6b9125"), looks := true }, kinds := [], alts := [], laidByText := true, laidKinds := [.data, .data, .data, .data, .sentinel, .sentinel, .pinned], laidTests := true, laidLooks := .later }
def DatumSameCardSaid : Prop := Claim7.holds Tryz.pinned (.plain (OpenSpec.ofChange datumSameSpec)) datumSameCard

/-- THE SECOND FORM's CARD OF 'corbellaw02.DatumRight'. -/
def datumRightUptoCard : Claim7 := { stood := { row := datumRightUptoRow, standIns := [], harness := (true, "c55dc3ed051fb601288ce9dd1366f066022422e132413e0e1c1990440f6b9125"), looks := true }, kinds := [], alts := [], laidByText := true, laidKinds := [.data, .data, .data, .data, .sentinel, .sentinel, .pinned], laidTests := true, laidLooks := .later }
def DatumRightUptoCardSaid : Prop := Claim7.holds Tryz.pinned (.plain (OpenSpec.upto datumRightSpec)) datumRightUptoCard

/-- THE SECOND FORM's CARD OF 'corbellaw02.DatumTexts'. -/
def datumTextsUptoCard : Claim7 := { stood := { row := datumTextsUptoRow, standIns := [], harness := (true, "c55dc3ed051fb601288ce9dd1366f066022422e132413e0e1c1990440f6b9125"), looks := true }, kinds := [], alts := [], laidByText := true, laidKinds := [.data, .data, .data, .data, .sentinel, .sentinel, .pinned], laidTests := true, laidLooks := .later }
def DatumTextsUptoCardSaid : Prop := Claim7.holds Tryz.pinned (.plain (OpenSpec.upto datumTextsSpec)) datumTextsUptoCard

/-- THE SECOND FORM's CARD OF 'corbellaw02.DatumSame'. -/
def datumSameUptoCard : Claim7 := { stood := { row := datumSameUptoRow, standIns := [], harness := (true, "c55dc3ed051fb601288ce9dd1366f066022422e132413e0e1c1990440f6b9125"), looks := true }, kinds := [], alts := [], laidByText := true, laidKinds := [.data, .data, .data, .data, .sentinel, .sentinel, .pinned], laidTests := true, laidLooks := .later }
def DatumSameUptoCardSaid : Prop := Claim7.holds Tryz.pinned (.plain (OpenSpec.upto datumSameSpec)) datumSameUptoCard
end Rows
end Go.Proofs.YtlpkpkcfgchngaaGreatDoor
