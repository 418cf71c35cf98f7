/-
  DERIVED. GIVEN WITH THE SEED: THE CARDS: each row of YtigkhmppnnljiaaGreatDoorRows.lean that lists a variable, with what it lists TIED to the program's text (the seventh form; the later family's looks); each row that meets fmt, with fmt's text TOLD by the authors' own Lean function (tested against real Go, not proved from fmt's source: count such statements apart). THE CARD IS WHAT COUNTS. Prove the row's statement (the work); the ties are given (YtigkhmppnnljiaaGreatDoorTie.lean); close each card by the builder's one call (the guide's Derived/Test/ToyasCard.lean, 'card_holds'). Laid BY PROGRAM, IN A SANDBOX (cutbox-door.mjs). By AI agents, Wed Nov 11 2026. No macro, syntax, notation, axiom, sorry.
-/
import Derived.Test.YtigkhmppnnljiaaGreatDoorRows
import GoSem.ClaimSeven
namespace Go.Proofs.YtigkhmppnnljiaaGreatDoor
namespace Rows

/-- THE TIED CARD OF 'corbellaw14.FlatChecks'. -/
def flatChecksCard : Claim7 := { stood := { row := flatChecksRow, standIns := [], harness := (true, "54df80c8e4496988a131dfbf9f14c8edd64037c5d6a824d1aa1609a7025f81b5"), looks := true }, kinds := [], alts := [], laidByText := true, laidKinds := [.data, .data, .data, .data, .sentinel, .sentinel, .pinned], laidTests := true, laidLooks := .later }
def FlatChecksCardSaid : Prop := Claim7.holds Tryz.pinned (.plain (OpenSpec.ofChange flatChecksSpec)) flatChecksCard

/-- THE TIED CARD OF 'corbellaw14.FlatMakes'. -/
def flatMakesCard : Claim7 := { stood := { row := flatMakesRow, standIns := [], harness := (true, "54df80c8e4496988a131dfbf9f14c8edd64037c5d6a824d1aa1609a7025f81b5"), looks := true }, kinds := [], alts := [], laidByText := true, laidKinds := [.data, .data, .data, .data, .sentinel, .sentinel, .pinned], laidTests := true, laidLooks := .later }
def FlatMakesCardSaid : Prop := Claim7.holds Tryz.pinned (.plain (OpenSpec.ofChange flatMakesSpec)) flatMakesCard

/-- THE TIED CARD OF 'corbellaw14.FlatShape'. -/
def flatShapeCard : Claim7 := { stood := { row := flatShapeRow, standIns := [], harness := (true, "54df80c8e4496988a131dfbf9f14c8edd64037c5d6a824d1aa1609a7025f81b5"), looks := true }, kinds := [], alts := [], laidByText := true, laidKinds := [.data, .data, .data, .data, .sentinel, .sentinel, .pinned], laidTests := true, laidLooks := .later }
def FlatShapeCardSaid : Prop := Claim7.holds Tryz.pinned (.plain (OpenSpec.ofChange flatShapeSpec)) flatShapeCard

/-- THE TIED CARD OF 'corbellaw14.FlatShift'. -/
def flatShiftCard : Claim7 := { stood := { row := flatShiftRow, standIns := [], harness := (true, "54df80c8e4496988a131dfbf9f14c8edd64037c5d6a824d1aa1609a7025f81b5"), looks := true }, kinds := [], alts := [], laidByText := true, laidKinds := [.data, .data, .data, .data, .sentinel, .sentinel, .pinned], laidTests := true, laidLooks := .later }
def FlatShiftCardSaid : Prop := Claim7.holds Tryz.pinned (.plain (OpenSpec.ofChange flatShiftSpec)) flatShiftCard

/-- THE TIED CARD OF 'corbellaw14.FlatEnds'. -/
def flatEndsCard : Claim7 := { stood := { row := flatEndsRow, standIns := [], harness := (true, "54df80c8e4496988a131dfbf9f14c8edd64037c5d6a824d1aa1609a7025f81b5"), looks := true }, kinds := [], alts := [], laidByText := true, laidKinds := [.data, .data, .data, .data, .sentinel, .sentinel, .pinned], laidTests := true, laidLooks := .later }
def FlatEndsCardSaid : Prop := Claim7.holds Tryz.pinned (.plain (OpenSpec.ofChange flatEndsSpec)) flatEndsCard

/-- THE TIED CARD OF 'corbellaw16.LiveSound'. -/
def liveSoundCard : Claim7 := { stood := { row := liveSoundRow, standIns := [], harness := (true, "54df80c8e4496988a131dfbf9f14c8edd64037c5d6a824d1aa1609a7025f81b5"), looks := true }, kinds := [], alts := [], laidByText := true, laidKinds := [.data, .data, .data, .data, .sentinel, .sentinel, .pinned], laidTests := true, laidLooks := .later }
def LiveSoundCardSaid : Prop := Claim7.holds Tryz.pinned (.plain (OpenSpec.ofChange liveSoundSpec)) liveSoundCard

/-- THE TIED CARD OF 'corbellaw18.PeepRests'. -/
def peepRestsCard : Claim7 := { stood := { row := peepRestsRow, standIns := [], harness := (true, "54df80c8e4496988a131dfbf9f14c8edd64037c5d6a824d1aa1609a7025f81b5"), looks := true }, kinds := [], alts := [], laidByText := true, laidKinds := [.data, .data, .data, .data, .sentinel, .sentinel, .pinned], laidTests := true, laidLooks := .later }
def PeepRestsCardSaid : Prop := Claim7.holds Tryz.pinned (.plain (OpenSpec.ofChange peepRestsSpec)) peepRestsCard

/-- THE SECOND FORM's CARD OF 'corbellaw14.FlatChecks'. -/
def flatChecksUptoCard : Claim7 := { stood := { row := flatChecksUptoRow, standIns := [], harness := (true, "54df80c8e4496988a131dfbf9f14c8edd64037c5d6a824d1aa1609a7025f81b5"), looks := true }, kinds := [], alts := [], laidByText := true, laidKinds := [.data, .data, .data, .data, .sentinel, .sentinel, .pinned], laidTests := true, laidLooks := .later }
def FlatChecksUptoCardSaid : Prop := Claim7.holds Tryz.pinned (.plain (OpenSpec.upto flatChecksSpec)) flatChecksUptoCard

/-- THE SECOND FORM's CARD OF 'corbellaw14.FlatMakes'. -/
def flatMakesUptoCard : Claim7 := { stood := { row := flatMakesUptoRow, standIns := [], harness := (true, "54df80c8e4496988a131dfbf9f14c8edd64037c5d6a824d1aa1609a7025f81b5"), looks := true }, kinds := [], alts := [], laidByText := true, laidKinds := [.data, .data, .data, .data, .sentinel, .sentinel, .pinned], laidTests := true, laidLooks := .later }
def FlatMakesUptoCardSaid : Prop := Claim7.holds Tryz.pinned (.plain (OpenSpec.upto flatMakesSpec)) flatMakesUptoCard

/-- THE SECOND FORM's CARD OF 'corbellaw14.FlatShape'. -/
def flatShapeUptoCard : Claim7 := { stood := { row := flatShapeUptoRow, standIns := [], harness := (true, "54df80c8e4496988a131dfbf9f14c8edd64037c5d6a824d1aa1609a7025f81b5"), looks := true }, kinds := [], alts := [], laidByText := true, laidKinds := [.data, .data, .data, .data, .sentinel, .sentinel, .pinned], laidTests := true, laidLooks := .later }
def FlatShapeUptoCardSaid : Prop := Claim7.holds Tryz.pinned (.plain (OpenSpec.upto flatShapeSpec)) flatShapeUptoCard

/-- THE SECOND FORM's CARD OF 'corbellaw14.FlatShift'. -/
def flatShiftUptoCard : Claim7 := { stood := { row := flatShiftUptoRow, standIns := [], harness := (true, "54df80c8e4496988a131dfbf9f14c8edd64037c5d6a824d1aa1609a7025f81b5"), looks := true }, kinds := [], alts := [], laidByText := true, laidKinds := [.data, .data, .data, .data, .sentinel, .sentinel, .pinned], laidTests := true, laidLooks := .later }
def FlatShiftUptoCardSaid : Prop := Claim7.holds Tryz.pinned (.plain (OpenSpec.upto flatShiftSpec)) flatShiftUptoCard

/-- THE SECOND FORM's CARD OF 'corbellaw14.FlatEnds'. -/
def flatEndsUptoCard : Claim7 := { stood := { row := flatEndsUptoRow, standIns := [], harness := (true, "54df80c8e4496988a131dfbf9f14c8edd64037c5d6a824d1aa1609a7025f81b5"), looks := true }, kinds := [], alts := [], laidByText := true, laidKinds := [.data, .data, .data, .data, .sentinel, .sentinel, .pinned], laidTests := true, laidLooks := .later }
def FlatEndsUptoCardSaid : Prop := Claim7.holds Tryz.pinned (.plain (OpenSpec.upto flatEndsSpec)) flatEndsUptoCard

/-- THE SECOND FORM's CARD OF 'corbellaw16.LiveSound'. -/
def liveSoundUptoCard : Claim7 := { stood := { row := liveSoundUptoRow, standIns := [], harness := (true, "54df80c8e4496988a131dfbf9f14c8edd64037c5d6a824d1aa1609a7025f81b5"), looks := true }, kinds := [], alts := [], laidByText := true, laidKinds := [.data, .data, .data, .data, .sentinel, .sentinel, .pinned], laidTests := true, laidLooks := .later }
def LiveSoundUptoCardSaid : Prop := Claim7.holds Tryz.pinned (.plain (OpenSpec.upto liveSoundSpec)) liveSoundUptoCard

/-- THE SECOND FORM's CARD OF 'corbellaw18.PeepRests'. -/
def peepRestsUptoCard : Claim7 := { stood := { row := peepRestsUptoRow, standIns := [], harness := (true, "54df80c8e4496988a131dfbf9f14c8edd64037c5d6a824d1aa1609a7025f81b5"), looks := true }, kinds := [], alts := [], laidByText := true, laidKinds := [.data, .data, .data, .data, .sentinel, .sentinel, .pinned], laidTests := true, laidLooks := .later }
def PeepRestsUptoCardSaid : Prop := Claim7.holds Tryz.pinned (.plain (OpenSpec.upto peepRestsSpec)) peepRestsUptoCard
end Rows
end Go.Proofs.YtigkhmppnnljiaaGreatDoor
