/-
  DERIVED. GIVEN WITH THE SEED: THE CARDS: each row of YtlpkpkcfgchngaaDoorRows.lean that lists a variable, with what it lists TIED to the program's text (the seventh form; the later family's looks); each row that meets fmt, with fmt's text TOLD by the authors' own Lean function (tested against real Go, not proved from fmt's source: count such statements apart). THE CARD IS WHAT COUNTS. Prove the row's statement (the work); the ties are given (YtlpkpkcfgchngaaDoorTie.lean); close each card by the builder's one call (the guide's Derived/Test/ToyasCard.lean, 'card_holds'). Laid BY PROGRAM, IN A SANDBOX (cutbox-door.mjs). By AI agents, Wed Nov 11 2026. No macro, syntax, notation, axiom, sorry.
-/
import Derived.Test.YtlpkpkcfgchngaaDoorRows
import GoSem.ClaimSeven
namespace Go.Proofs.YtlpkpkcfgchngaaDoor
namespace Rows

/-- THE TIED CARD OF 'corbellaw02.DatumParts'. -/
def datumPartsCard : Claim7 := { stood := { row := datumPartsRow, standIns := [], harness := (true, "412280bc3828404fff87a5fa964a88adeb5d6b26c4ed5c21bc09c724c33cccc5"), looks := true }, kinds := [], alts := [], laidByText := true, laidKinds := [.data, .data, .data, .data, .sentinel, .sentinel, .pinned], laidTests := true, laidLooks := .later }
def DatumPartsCardSaid : Prop := Claim7.holds Tryd.pinned (.plain (OpenSpec.ofChange datumPartsSpec)) datumPartsCard

/-- THE TIED CARD OF 'corbellaw02.DatumSizes'. -/
def datumSizesCard : Claim7 := { stood := { row := datumSizesRow, standIns := [], harness := (true, "412280bc3828404fff87a5fa964a88adeb5d6b26c4ed5c21bc09c724c33cccc5"), looks := true }, kinds := [], alts := [], laidByText := true, laidKinds := [.data, .data, .data, .data, .sentinel, .sentinel, .pinned], laidTests := true, laidLooks := .later }
def DatumSizesCardSaid : Prop := Claim7.holds Tryd.pinned (.plain (OpenSpec.ofChange datumSizesSpec)) datumSizesCard

/-- THE TIED CARD OF 'corbellaw02.DatumAlike'. -/
def datumAlikeCard : Claim7 := { stood := { row := datumAlikeRow, standIns := [], harness := (true, "412280bc3828404fff87a5fa964a88adeb5d6b26c4ed5c21bc09c724c33cccc5"), looks := true }, kinds := [], alts := [], laidByText := true, laidKinds := [.data, .data, .data, .data, .sentinel, .sentinel, .pinned], laidTests := true, laidLooks := .later }
def DatumAlikeCardSaid : Prop := Claim7.holds Tryd.pinned (.plain (OpenSpec.ofChange datumAlikeSpec)) datumAlikeCard

/-- THE TIED CARD OF 'corbellaw02.DatumItems'. -/
def datumItemsCard : Claim7 := { stood := { row := datumItemsRow, standIns := [], harness := (true, "412280bc3828404fff87a5fa964a88adeb5d6b26c4ed5c21bc09c724c33cccc5"), looks := true }, kinds := [], alts := [], laidByText := true, laidKinds := [.data, .data, .data, .data, .sentinel, .sentinel, .pinned], laidTests := true, laidLooks := .later }
def DatumItemsCardSaid : Prop := Claim7.holds Tryd.pinned (.plain (OpenSpec.ofChange datumItemsSpec)) datumItemsCard

/-- THE SECOND FORM's CARD OF 'corbellaw02.DatumParts'. -/
def datumPartsUptoCard : Claim7 := { stood := { row := datumPartsUptoRow, standIns := [], harness := (true, "412280bc3828404fff87a5fa964a88adeb5d6b26c4ed5c21bc09c724c33cccc5"), looks := true }, kinds := [], alts := [], laidByText := true, laidKinds := [.data, .data, .data, .data, .sentinel, .sentinel, .pinned], laidTests := true, laidLooks := .later }
def DatumPartsUptoCardSaid : Prop := Claim7.holds Tryd.pinned (.plain (OpenSpec.upto datumPartsSpec)) datumPartsUptoCard

/-- THE SECOND FORM's CARD OF 'corbellaw02.DatumSizes'. -/
def datumSizesUptoCard : Claim7 := { stood := { row := datumSizesUptoRow, standIns := [], harness := (true, "412280bc3828404fff87a5fa964a88adeb5d6b26c4ed5c21bc09c724c33cccc5"), looks := true }, kinds := [], alts := [], laidByText := true, laidKinds := [.data, .data, .data, .data, .sentinel, .sentinel, .pinned], laidTests := true, laidLooks := .later }
def DatumSizesUptoCardSaid : Prop := Claim7.holds Tryd.pinned (.plain (OpenSpec.upto datumSizesSpec)) datumSizesUptoCard

/-- THE SECOND FORM's CARD OF 'corbellaw02.DatumAlike'. -/
def datumAlikeUptoCard : Claim7 := { stood := { row := datumAlikeUptoRow, standIns := [], harness := (true, "412280bc3828404fff87a5fa964a88adeb5d6b26c4ed5c21bc09c724c33cccc5"), looks := true }, kinds := [], alts := [], laidByText := true, laidKinds := [.data, .data, .data, .data, .sentinel, .sentinel, .pinned], laidTests := true, laidLooks := .later }
def DatumAlikeUptoCardSaid : Prop := Claim7.holds Tryd.pinned (.plain (OpenSpec.upto datumAlikeSpec)) datumAlikeUptoCard

/-- THE SECOND FORM's CARD OF 'corbellaw02.DatumItems'. -/
def datumItemsUptoCard : Claim7 := { stood := { row := datumItemsUptoRow, standIns := [], harness := (true, "412280bc3828404fff87a5fa964a88adeb5d6b26c4ed5c21bc09c724c33cccc5"), looks := true }, kinds := [], alts := [], laidByText := true, laidKinds := [.data, .data, .data, .data, .sentinel, .sentinel, .pinned], laidTests := true, laidLooks := .later }
def DatumItemsUptoCardSaid : Prop := Claim7.holds Tryd.pinned (.plain (OpenSpec.upto datumItemsSpec)) datumItemsUptoCard
end Rows
end Go.Proofs.YtlpkpkcfgchngaaDoor
