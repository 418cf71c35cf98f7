/-
  DERIVED. GIVEN WITH THE SEED: THE CARDS: each row of YtpcneeekmhdhgaaDoorRows.lean that lists a variable, with what it lists TIED to the program's text (the seventh form; the later family's looks); each row that meets fmt, with fmt's text TOLD by the authors' own Lean function (tested against real Go, not proved from fmt's source: count such statements apart). THE CARD IS WHAT COUNTS. Prove the row's statement (the work); the ties are given (YtpcneeekmhdhgaaDoorTie.lean); close each card by the builder's one call (the guide's Derived/Test/ToyasCard.lean, 'card_holds'). Laid BY PROGRAM, IN A SANDBOX (cutbox-door.mjs). By AI agents, Wed Nov 11 2026. No macro, syntax, notation, axiom, sorry.
-/
import Derived.Test.YtpcneeekmhdhgaaDoorRows
import GoSem.ClaimSeven
namespace Go.Proofs.YtpcneeekmhdhgaaDoor
namespace Rows

/-- THE TIED CARD OF 'corbellaw03.ReaderPlace'. -/
def readerPlaceCard : Claim7 := { stood := { row := readerPlaceRow, standIns := [], harness := (true, "43600c3434f990c25bde47e4751bd1da82a332ed32543bb02bec25cac0ede0c0"), looks := true }, kinds := [], alts := [], laidByText := true, laidKinds := [.data, .data, .data, .data, .sentinel, .sentinel, .pinned], laidTests := true, laidLooks := .later }
def ReaderPlaceCardSaid : Prop := Claim7.holds Tryd.pinned (.plain (OpenSpec.ofChange readerPlaceSpec)) readerPlaceCard

/-- THE SECOND FORM's CARD OF 'corbellaw03.ReaderPlace'. -/
def readerPlaceUptoCard : Claim7 := { stood := { row := readerPlaceUptoRow, standIns := [], harness := (true, "43600c3434f990c25bde47e4751bd1da82a332ed32543bb02bec25cac0ede0c0"), looks := true }, kinds := [], alts := [], laidByText := true, laidKinds := [.data, .data, .data, .data, .sentinel, .sentinel, .pinned], laidTests := true, laidLooks := .later }
def ReaderPlaceUptoCardSaid : Prop := Claim7.holds Tryd.pinned (.plain (OpenSpec.upto readerPlaceSpec)) readerPlaceUptoCard
end Rows
end Go.Proofs.YtpcneeekmhdhgaaDoor
