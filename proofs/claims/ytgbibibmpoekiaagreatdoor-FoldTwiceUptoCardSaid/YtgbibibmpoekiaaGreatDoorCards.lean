/-
  DERIVED. GIVEN WITH THE SEED: THE CARDS: each row of YtgbibibmpoekiaaGreatDoorRows.lean that lists a variable, with what it lists TIED to the program's text (the seventh form; the later family's looks); each row that meets fmt, with fmt's text TOLD by the authors' own Lean function (tested against real Go, not proved from fmt's source: count such statements apart). THE CARD IS WHAT COUNTS. Prove the row's statement (the work); the ties are given (YtgbibibmpoekiaaGreatDoorTie.lean); close each card by the builder's one call (the guide's Derived/Test/ToyasCard.lean, 'card_holds'). Laid BY PROGRAM, IN A SANDBOX (cutbox-door.mjs). By AI agents, Wed Nov 11 2026. No macro, syntax, notation, axiom, sorry.
-/
import Derived.Test.YtgbibibmpoekiaaGreatDoorRows
import GoSem.ClaimSeven
namespace Go.Proofs.YtgbibibmpoekiaaGreatDoor
namespace Rows

/-- THE TIED CARD OF 'corbellaw11.FoldConverts'. -/
def foldConvertsCard : Claim7 := { stood := { row := foldConvertsRow, standIns := [], harness := (true, "4034231ec8552987f660e3d9c62f9ed855b0a1715157d4bf63a9879c7678a09b"), looks := true }, kinds := [], alts := [], laidByText := true, laidKinds := [.data, .data, .data, .data, .sentinel, .sentinel, .pinned], laidTests := true, laidLooks := .later }
def FoldConvertsCardSaid : Prop := Claim7.holds Tryz.pinned (.plain (OpenSpec.ofChange foldConvertsSpec)) foldConvertsCard

/-- THE TIED CARD OF 'corbellaw11.FoldRests'. -/
def foldRestsCard : Claim7 := { stood := { row := foldRestsRow, standIns := [], harness := (true, "4034231ec8552987f660e3d9c62f9ed855b0a1715157d4bf63a9879c7678a09b"), looks := true }, kinds := [], alts := [], laidByText := true, laidKinds := [.data, .data, .data, .data, .sentinel, .sentinel, .pinned], laidTests := true, laidLooks := .later }
def FoldRestsCardSaid : Prop := Claim7.holds Tryz.pinned (.plain (OpenSpec.ofChange foldRestsSpec)) foldRestsCard

/-- THE TIED CARD OF 'corbellaw11.FoldShift'. -/
def foldShiftCard : Claim7 := { stood := { row := foldShiftRow, standIns := [], harness := (true, "4034231ec8552987f660e3d9c62f9ed855b0a1715157d4bf63a9879c7678a09b"), looks := true }, kinds := [], alts := [], laidByText := true, laidKinds := [.data, .data, .data, .data, .sentinel, .sentinel, .pinned], laidTests := true, laidLooks := .later }
def FoldShiftCardSaid : Prop := Claim7.holds Tryz.pinned (.plain (OpenSpec.ofChange foldShiftSpec)) foldShiftCard

/-- THE TIED CARD OF 'corbellaw11.FoldTwice'. -/
def foldTwiceCard : Claim7 := { stood := { row := foldTwiceRow, standIns := [], harness := (true, "4034231ec8552987f660e3d9c62f9ed855b0a1715157d4bf63a9879c7678a09b"), looks := true }, kinds := [], alts := [], laidByText := true, laidKinds := [.data, .data, .data, .data, .sentinel, .sentinel, .pinned], laidTests := true, laidLooks := .later }
def FoldTwiceCardSaid : Prop := Claim7.holds Tryz.pinned (.plain (OpenSpec.ofChange foldTwiceSpec)) foldTwiceCard

/-- THE TIED CARD OF 'corbellaw11.FoldLess'. -/
def foldLessCard : Claim7 := { stood := { row := foldLessRow, standIns := [], harness := (true, "4034231ec8552987f660e3d9c62f9ed855b0a1715157d4bf63a9879c7678a09b"), looks := true }, kinds := [], alts := [], laidByText := true, laidKinds := [.data, .data, .data, .data, .sentinel, .sentinel, .pinned], laidTests := true, laidLooks := .later }
def FoldLessCardSaid : Prop := Claim7.holds Tryz.pinned (.plain (OpenSpec.ofChange foldLessSpec)) foldLessCard

/-- THE SECOND FORM's CARD OF 'corbellaw11.FoldConverts'. -/
def foldConvertsUptoCard : Claim7 := { stood := { row := foldConvertsUptoRow, standIns := [], harness := (true, "4034231ec8552987f660e3d9c62f9ed855b0a1715157d4bf63a9879c7678a09b"), looks := true }, kinds := [], alts := [], laidByText := true, laidKinds := [.data, .data, .data, .data, .sentinel, .sentinel, .pinned], laidTests := true, laidLooks := .later }
def FoldConvertsUptoCardSaid : Prop := Claim7.holds Tryz.pinned (.plain (OpenSpec.upto foldConvertsSpec)) foldConvertsUptoCard

/-- THE SECOND FORM's CARD OF 'corbellaw11.FoldRests'. -/
def foldRestsUptoCard : Claim7 := { stood := { row := foldRestsUptoRow, standIns := [], harness := (true, "4034231ec8552987f660e3d9c62f9ed855b0a1715157d4bf63a9879c7678a09b"), looks := true }, kinds := [], alts := [], laidByText := true, laidKinds := [.data, .data, .data, .data, .sentinel, .sentinel, .pinned], laidTests := true, laidLooks := .later }
def FoldRestsUptoCardSaid : Prop := Claim7.holds Tryz.pinned (.plain (OpenSpec.upto foldRestsSpec)) foldRestsUptoCard

/-- THE SECOND FORM's CARD OF 'corbellaw11.FoldShift'. -/
def foldShiftUptoCard : Claim7 := { stood := { row := foldShiftUptoRow, standIns := [], harness := (true, "4034231ec8552987f660e3d9c62f9ed855b0a1715157d4bf63a9879c7678a09b"), looks := true }, kinds := [], alts := [], laidByText := true, laidKinds := [.data, .data, .data, .data, .sentinel, .sentinel, .pinned], laidTests := true, laidLooks := .later }
def FoldShiftUptoCardSaid : Prop := Claim7.holds Tryz.pinned (.plain (OpenSpec.upto foldShiftSpec)) foldShiftUptoCard

/-- THE SECOND FORM's CARD OF 'corbellaw11.FoldTwice'. -/
def foldTwiceUptoCard : Claim7 := { stood := { row := foldTwiceUptoRow, standIns := [], harness := (true, "4034231ec8552987f660e3d9c62f9ed855b0a1715157d4bf63a9879c7678a09b"), looks := true }, kinds := [], alts := [], laidByText := true, laidKinds := [.data, .data, .data, .data, .sentinel, .sentinel, .pinned], laidTests := true, laidLooks := .later }
def FoldTwiceUptoCardSaid : Prop := Claim7.holds Tryz.pinned (.plain (OpenSpec.upto foldTwiceSpec)) foldTwiceUptoCard

/-- THE SECOND FORM's CARD OF 'corbellaw11.FoldLess'. -/
def foldLessUptoCard : Claim7 := { stood := { row := foldLessUptoRow, standIns := [], harness := (true, "4034231ec8552987f660e3d9c62f9ed855b0a1715157d4bf63a9879c7678a09b"), looks := true }, kinds := [], alts := [], laidByText := true, laidKinds := [.data, .data, .data, .data, .sentinel, .sentinel, .pinned], laidTests := true, laidLooks := .later }
def FoldLessUptoCardSaid : Prop := Claim7.holds Tryz.pinned (.plain (OpenSpec.upto foldLessSpec)) foldLessUptoCard
end Rows
end Go.Proofs.YtgbibibmpoekiaaGreatDoor
