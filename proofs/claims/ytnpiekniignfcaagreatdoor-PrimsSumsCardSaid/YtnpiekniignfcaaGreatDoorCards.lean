/-
  DERIVED. GIVEN WITH THE SEED: THE CARDS: each row of YtnpiekniignfcaaGreatDoorRows.lean that lists a variable, with what it lists TIED to the program's text (the seventh form; the later family's looks); each row that meets fmt, with fmt's text TOLD by the authors' own Lean function (tested against real Go, not proved from fmt's source: count such statements apart). THE CARD IS WHAT COUNTS. Prove the row's statement (the work); the ties are given (YtnpiekniignfcaaGreatDoorTie.lean); close each card by the builder's one call (the guide's Derived/Test/ToyasCard.lean, 'card_holds'). Laid BY PROGRAM, IN A SANDBOX (cutbox-door.mjs). By AI agents, Wed Nov 11 2026. No macro, syntax, notation, axiom, sorry.
-/
import Derived.Test.YtnpiekniignfcaaGreatDoorRows
import GoSem.ClaimSeven
namespace Go.Proofs.YtnpiekniignfcaaGreatDoor
namespace Rows

/-- THE TIED CARD OF 'corbellaw05.PrimsFolds'. -/
def primsFoldsCard : Claim7 := { stood := { row := primsFoldsRow, standIns := [], harness := (true, "8cdeccff3b70a7ca6e1553951a392a7321360f9a8b12c63b8613f334bae2e994"), looks := true }, kinds := [], alts := [], laidByText := true, laidKinds := [.data, .data, .data, .data, .sentinel, .sentinel, .pinned], laidTests := true, laidLooks := .later }
def PrimsFoldsCardSaid : Prop := Claim7.holds Tryz.pinned (.plain (OpenSpec.ofChange primsFoldsSpec)) primsFoldsCard

/-- THE TIED CARD OF 'corbellaw05.PrimsRight'. -/
def primsRightCard : Claim7 := { stood := { row := primsRightRow, standIns := [], harness := (true, "8cdeccff3b70a7ca6e1553951a392a7321360f9a8b12c63b8613f334bae2e994"), looks := true }, kinds := [], alts := [], laidByText := true, laidKinds := [.data, .data, .data, .data, .sentinel, .sentinel, .pinned], laidTests := true, laidLooks := .later }
def PrimsRightCardSaid : Prop := Claim7.holds Tryz.pinned (.plain (OpenSpec.ofChange primsRightSpec)) primsRightCard

/-- THE TIED CARD OF 'corbellaw05.PrimsSums'. -/
def primsSumsCard : Claim7 := { stood := { row := primsSumsRow, standIns := [], harness := (true, "8cdeccff3b70a7ca6e1553951a392a7321360f9a8b12c63b8613f334bae2e994"), looks := true }, kinds := [], alts := [], laidByText := true, laidKinds := [.data, .data, .data, .data, .sentinel, .sentinel, .pinned], laidTests := true, laidLooks := .later }
def PrimsSumsCardSaid : Prop := Claim7.holds Tryz.pinned (.plain (OpenSpec.ofChange primsSumsSpec)) primsSumsCard

/-- THE TIED CARD OF 'corbellaw05.PrimsKinds'. -/
def primsKindsCard : Claim7 := { stood := { row := primsKindsRow, standIns := [], harness := (true, "8cdeccff3b70a7ca6e1553951a392a7321360f9a8b12c63b8613f334bae2e994"), looks := true }, kinds := [], alts := [], laidByText := true, laidKinds := [.data, .data, .data, .data, .sentinel, .sentinel, .pinned], laidTests := true, laidLooks := .later }
def PrimsKindsCardSaid : Prop := Claim7.holds Tryz.pinned (.plain (OpenSpec.ofChange primsKindsSpec)) primsKindsCard

/-- THE TIED CARD OF 'corbellaw05.PrimsFacts'. -/
def primsFactsCard : Claim7 := { stood := { row := primsFactsRow, standIns := [], harness := (true, "8cdeccff3b70a7ca6e1553951a392a7321360f9a8b12c63b8613f334bae2e994"), looks := true }, kinds := [], alts := [], laidByText := true, laidKinds := [.data, .data, .data, .data, .sentinel, .sentinel, .pinned], laidTests := true, laidLooks := .later }
def PrimsFactsCardSaid : Prop := Claim7.holds Tryz.pinned (.plain (OpenSpec.ofChange primsFactsSpec)) primsFactsCard

/-- THE TIED CARD OF 'corbellaw05.PrimsNames'. -/
def primsNamesCard : Claim7 := { stood := { row := primsNamesRow, standIns := [], harness := (true, "8cdeccff3b70a7ca6e1553951a392a7321360f9a8b12c63b8613f334bae2e994"), looks := true }, kinds := [], alts := [], laidByText := true, laidKinds := [.data, .data, .data, .data, .sentinel, .sentinel, .pinned], laidTests := true, laidLooks := .later }
def PrimsNamesCardSaid : Prop := Claim7.holds Tryz.pinned (.plain (OpenSpec.ofChange primsNamesSpec)) primsNamesCard

/-- THE TIED CARD OF 'corbellaw05.PrimsLists'. -/
def primsListsCard : Claim7 := { stood := { row := primsListsRow, standIns := [], harness := (true, "8cdeccff3b70a7ca6e1553951a392a7321360f9a8b12c63b8613f334bae2e994"), looks := true }, kinds := [], alts := [], laidByText := true, laidKinds := [.data, .data, .data, .data, .sentinel, .sentinel, .pinned], laidTests := true, laidLooks := .later }
def PrimsListsCardSaid : Prop := Claim7.holds Tryz.pinned (.plain (OpenSpec.ofChange primsListsSpec)) primsListsCard

/-- THE SECOND FORM's CARD OF 'corbellaw05.PrimsFolds'. -/
def primsFoldsUptoCard : Claim7 := { stood := { row := primsFoldsUptoRow, standIns := [], harness := (true, "8cdeccff3b70a7ca6e1553951a392a7321360f9a8b12c63b8613f334bae2e994"), looks := true }, kinds := [], alts := [], laidByText := true, laidKinds := [.data, .data, .data, .data, .sentinel, .sentinel, .pinned], laidTests := true, laidLooks := .later }
def PrimsFoldsUptoCardSaid : Prop := Claim7.holds Tryz.pinned (.plain (OpenSpec.upto primsFoldsSpec)) primsFoldsUptoCard

/-- THE SECOND FORM's CARD OF 'corbellaw05.PrimsRight'. -/
def primsRightUptoCard : Claim7 := { stood := { row := primsRightUptoRow, standIns := [], harness := (true, "8cdeccff3b70a7ca6e1553951a392a7321360f9a8b12c63b8613f334bae2e994"), looks := true }, kinds := [], alts := [], laidByText := true, laidKinds := [.data, .data, .data, .data, .sentinel, .sentinel, .pinned], laidTests := true, laidLooks := .later }
def PrimsRightUptoCardSaid : Prop := Claim7.holds Tryz.pinned (.plain (OpenSpec.upto primsRightSpec)) primsRightUptoCard

/-- THE SECOND FORM's CARD OF 'corbellaw05.PrimsSums'. -/
def primsSumsUptoCard : Claim7 := { stood := { row := primsSumsUptoRow, standIns := [], harness := (true, "8cdeccff3b70a7ca6e1553951a392a7321360f9a8b12c63b8613f334bae2e994"), looks := true }, kinds := [], alts := [], laidByText := true, laidKinds := [.data, .data, .data, .data, .sentinel, .sentinel, .pinned], laidTests := true, laidLooks := .later }
def PrimsSumsUptoCardSaid : Prop := Claim7.holds Tryz.pinned (.plain (OpenSpec.upto primsSumsSpec)) primsSumsUptoCard

/-- THE SECOND FORM's CARD OF 'corbellaw05.PrimsKinds'. -/
def primsKindsUptoCard : Claim7 := { stood := { row := primsKindsUptoRow, standIns := [], harness := (true, "8cdeccff3b70a7ca6e1553951a392a7321360f9a8b12c63b8613f334bae2e994"), looks := true }, kinds := [], alts := [], laidByText := true, laidKinds := [.data, .data, .data, .data, .sentinel, .sentinel, .pinned], laidTests := true, laidLooks := .later }
def PrimsKindsUptoCardSaid : Prop := Claim7.holds Tryz.pinned (.plain (OpenSpec.upto primsKindsSpec)) primsKindsUptoCard

/-- THE SECOND FORM's CARD OF 'corbellaw05.PrimsFacts'. -/
def primsFactsUptoCard : Claim7 := { stood := { row := primsFactsUptoRow, standIns := [], harness := (true, "8cdeccff3b70a7ca6e1553951a392a7321360f9a8b12c63b8613f334bae2e994"), looks := true }, kinds := [], alts := [], laidByText := true, laidKinds := [.data, .data, .data, .data, .sentinel, .sentinel, .pinned], laidTests := true, laidLooks := .later }
def PrimsFactsUptoCardSaid : Prop := Claim7.holds Tryz.pinned (.plain (OpenSpec.upto primsFactsSpec)) primsFactsUptoCard

/-- THE SECOND FORM's CARD OF 'corbellaw05.PrimsNames'. -/
def primsNamesUptoCard : Claim7 := { stood := { row := primsNamesUptoRow, standIns := [], harness := (true, "8cdeccff3b70a7ca6e1553951a392a7321360f9a8b12c63b8613f334bae2e994"), looks := true }, kinds := [], alts := [], laidByText := true, laidKinds := [.data, .data, .data, .data, .sentinel, .sentinel, .pinned], laidTests := true, laidLooks := .later }
def PrimsNamesUptoCardSaid : Prop := Claim7.holds Tryz.pinned (.plain (OpenSpec.upto primsNamesSpec)) primsNamesUptoCard

/-- THE SECOND FORM's CARD OF 'corbellaw05.PrimsLists'. -/
def primsListsUptoCard : Claim7 := { stood := { row := primsListsUptoRow, standIns := [], harness := (true, "8cdeccff3b70a7ca6e1553951a392a7321360f9a8b12c63b8613f334bae2e994"), looks := true }, kinds := [], alts := [], laidByText := true, laidKinds := [.data, .data, .data, .data, .sentinel, .sentinel, .pinned], laidTests := true, laidLooks := .later }
def PrimsListsUptoCardSaid : Prop := Claim7.holds Tryz.pinned (.plain (OpenSpec.upto primsListsSpec)) primsListsUptoCard
end Rows
end Go.Proofs.YtnpiekniignfcaaGreatDoor
