/-
  DERIVED. GIVEN WITH THE SEED: THE CARDS: each row of YtblojcokpdmgnaaDoorRows.lean that lists a variable, with what it lists TIED to the program's text (the seventh form; the later family's looks); each row that meets fmt, with fmt's text TOLD by the authors' own Lean function (tested against real Go, not proved from fmt's source: count such statements apart). THE CARD IS WHAT COUNTS. Prove the row's statement (the work); the ties are given (YtblojcokpdmgnaaDoorTie.lean); close each card by the builder's one call (the guide's Derived/Test/ToyasCard.lean, 'card_holds'). Laid BY PROGRAM, IN A SANDBOX (cutbox-door.mjs). By AI agents, Wed Nov 11 2026. No macro, syntax, notation, axiom, sorry.
-/
import Derived.Test.YtblojcokpdmgnaaDoorRows
import GoSem.ClaimSeven
namespace Go.Proofs.YtblojcokpdmgnaaDoor
namespace Rows

/-- THE TIED CARD OF 'corbellaw01.NumTexts'. -/
def numTextsCard : Claim7 := { stood := { row := numTextsRow, standIns := [], harness := (true, "074641850a0cf36873d12d9732f63974e0592423217a1964d1db0317ee76f9c0"), looks := true }, kinds := [], alts := [], laidByText := true, laidKinds := [.data, .data, .data, .data, .sentinel, .sentinel, .pinned], laidTests := true, laidLooks := .later }
def NumTextsCardSaid : Prop := Claim7.holds Tryd.pinned (.plain (OpenSpec.ofChange numTextsSpec)) numTextsCard

/-- THE TIED CARD OF 'corbellaw01.NumBack'. -/
def numBackCard : Claim7 := { stood := { row := numBackRow, standIns := [], harness := (true, "074641850a0cf36873d12d9732f63974e0592423217a1964d1db0317ee76f9c0"), looks := true }, kinds := [], alts := [], laidByText := true, laidKinds := [.data, .data, .data, .data, .sentinel, .sentinel, .pinned], laidTests := true, laidLooks := .later }
def NumBackCardSaid : Prop := Claim7.holds Tryd.pinned (.plain (OpenSpec.ofChange numBackSpec)) numBackCard

/-- THE TIED CARD OF 'corbellaw02.DatumParts'. -/
def datumPartsCard : Claim7 := { stood := { row := datumPartsRow, standIns := [], harness := (true, "074641850a0cf36873d12d9732f63974e0592423217a1964d1db0317ee76f9c0"), looks := true }, kinds := [], alts := [], laidByText := true, laidKinds := [.data, .data, .data, .data, .sentinel, .sentinel, .pinned], laidTests := true, laidLooks := .later }
def DatumPartsCardSaid : Prop := Claim7.holds Tryd.pinned (.plain (OpenSpec.ofChange datumPartsSpec)) datumPartsCard

/-- THE TIED CARD OF 'corbellaw02.DatumSizes'. -/
def datumSizesCard : Claim7 := { stood := { row := datumSizesRow, standIns := [], harness := (true, "074641850a0cf36873d12d9732f63974e0592423217a1964d1db0317ee76f9c0"), looks := true }, kinds := [], alts := [], laidByText := true, laidKinds := [.data, .data, .data, .data, .sentinel, .sentinel, .pinned], laidTests := true, laidLooks := .later }
def DatumSizesCardSaid : Prop := Claim7.holds Tryd.pinned (.plain (OpenSpec.ofChange datumSizesSpec)) datumSizesCard

/-- THE TIED CARD OF 'corbellaw02.DatumAlike'. -/
def datumAlikeCard : Claim7 := { stood := { row := datumAlikeRow, standIns := [], harness := (true, "074641850a0cf36873d12d9732f63974e0592423217a1964d1db0317ee76f9c0"), looks := true }, kinds := [], alts := [], laidByText := true, laidKinds := [.data, .data, .data, .data, .sentinel, .sentinel, .pinned], laidTests := true, laidLooks := .later }
def DatumAlikeCardSaid : Prop := Claim7.holds Tryd.pinned (.plain (OpenSpec.ofChange datumAlikeSpec)) datumAlikeCard

/-- THE TIED CARD OF 'corbellaw02.DatumItems'. -/
def datumItemsCard : Claim7 := { stood := { row := datumItemsRow, standIns := [], harness := (true, "074641850a0cf36873d12d9732f63974e0592423217a1964d1db0317ee76f9c0"), looks := true }, kinds := [], alts := [], laidByText := true, laidKinds := [.data, .data, .data, .data, .sentinel, .sentinel, .pinned], laidTests := true, laidLooks := .later }
def DatumItemsCardSaid : Prop := Claim7.holds Tryd.pinned (.plain (OpenSpec.ofChange datumItemsSpec)) datumItemsCard

/-- THE TIED CARD OF 'corbellaw03.ReaderPlace'. -/
def readerPlaceCard : Claim7 := { stood := { row := readerPlaceRow, standIns := [], harness := (true, "074641850a0cf36873d12d9732f63974e0592423217a1964d1db0317ee76f9c0"), looks := true }, kinds := [], alts := [], laidByText := true, laidKinds := [.data, .data, .data, .data, .sentinel, .sentinel, .pinned], laidTests := true, laidLooks := .later }
def ReaderPlaceCardSaid : Prop := Claim7.holds Tryd.pinned (.plain (OpenSpec.ofChange readerPlaceSpec)) readerPlaceCard

/-- THE SECOND FORM's CARD OF 'corbellaw01.NumTexts'. -/
def numTextsUptoCard : Claim7 := { stood := { row := numTextsUptoRow, standIns := [], harness := (true, "074641850a0cf36873d12d9732f63974e0592423217a1964d1db0317ee76f9c0"), looks := true }, kinds := [], alts := [], laidByText := true, laidKinds := [.data, .data, .data, .data, .sentinel, .sentinel, .pinned], laidTests := true, laidLooks := .later }
def NumTextsUptoCardSaid : Prop := Claim7.holds Tryd.pinned (.plain (OpenSpec.upto numTextsSpec)) numTextsUptoCard

/-- THE SECOND FORM's CARD OF 'corbellaw01.NumBack'. -/
def numBackUptoCard : Claim7 := { stood := { row := numBackUptoRow, standIns := [], harness := (true, "074641850a0cf36873d12d9732f63974e0592423217a1964d1db0317ee76f9c0"), looks := true }, kinds := [], alts := [], laidByText := true, laidKinds := [.data, .data, .data, .data, .sentinel, .sentinel, .pinned], laidTests := true, laidLooks := .later }
def NumBackUptoCardSaid : Prop := Claim7.holds Tryd.pinned (.plain (OpenSpec.upto numBackSpec)) numBackUptoCard

/-- THE SECOND FORM's CARD OF 'corbellaw02.DatumParts'. -/
def datumPartsUptoCard : Claim7 := { stood := { row := datumPartsUptoRow, standIns := [], harness := (true, "074641850a0cf36873d12d9732f63974e0592423217a1964d1db0317ee76f9c0"), looks := true }, kinds := [], alts := [], laidByText := true, laidKinds := [.data, .data, .data, .data, .sentinel, .sentinel, .pinned], laidTests := true, laidLooks := .later }
def DatumPartsUptoCardSaid : Prop := Claim7.holds Tryd.pinned (.plain (OpenSpec.upto datumPartsSpec)) datumPartsUptoCard

/-- THE SECOND FORM's CARD OF 'corbellaw02.DatumSizes'. -/
def datumSizesUptoCard : Claim7 := { stood := { row := datumSizesUptoRow, standIns := [], harness := (true, "074641850a0cf36873d12d9732f63974e0592423217a1964d1db0317ee76f9c0"), looks := true }, kinds := [], alts := [], laidByText := true, laidKinds := [.data, .data, .data, .data, .sentinel, .sentinel, .pinned], laidTests := true, laidLooks := .later }
def DatumSizesUptoCardSaid : Prop := Claim7.holds Tryd.pinned (.plain (OpenSpec.upto datumSizesSpec)) datumSizesUptoCard

/-- THE SECOND FORM's CARD OF 'corbellaw02.DatumAlike'. -/
def datumAlikeUptoCard : Claim7 := { stood := { row := datumAlikeUptoRow, standIns := [], harness := (true, "074641850a0cf36873d12d9732f63974e0592423217a1964d1db0317ee76f9c0"), looks := true }, kinds := [], alts := [], laidByText := true, laidKinds := [.data, .data, .data, .data, .sentinel, .sentinel, .pinned], laidTests := true, laidLooks := .later }
def DatumAlikeUptoCardSaid : Prop := Claim7.holds Tryd.pinned (.plain (OpenSpec.upto datumAlikeSpec)) datumAlikeUptoCard

/-- THE SECOND FORM's CARD OF 'corbellaw02.DatumItems'. -/
def datumItemsUptoCard : Claim7 := { stood := { row := datumItemsUptoRow, standIns := [], harness := (true, "074641850a0cf36873d12d9732f63974e0592423217a1964d1db0317ee76f9c0"), looks := true }, kinds := [], alts := [], laidByText := true, laidKinds := [.data, .data, .data, .data, .sentinel, .sentinel, .pinned], laidTests := true, laidLooks := .later }
def DatumItemsUptoCardSaid : Prop := Claim7.holds Tryd.pinned (.plain (OpenSpec.upto datumItemsSpec)) datumItemsUptoCard

/-- THE SECOND FORM's CARD OF 'corbellaw03.ReaderPlace'. -/
def readerPlaceUptoCard : Claim7 := { stood := { row := readerPlaceUptoRow, standIns := [], harness := (true, "074641850a0cf36873d12d9732f63974e0592423217a1964d1db0317ee76f9c0"), looks := true }, kinds := [], alts := [], laidByText := true, laidKinds := [.data, .data, .data, .data, .sentinel, .sentinel, .pinned], laidTests := true, laidLooks := .later }
def ReaderPlaceUptoCardSaid : Prop := Claim7.holds Tryd.pinned (.plain (OpenSpec.upto readerPlaceSpec)) readerPlaceUptoCard
end Rows
end Go.Proofs.YtblojcokpdmgnaaDoor
