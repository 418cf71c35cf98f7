/-
  DERIVED. GIVEN WITH THE SEED: THE CARDS: each row of YtdcajmeeeoofgaaGreatDoorRows.lean that lists a variable, with what it lists TIED to the program's text (the seventh form; the later family's looks); each row that meets fmt, with fmt's text TOLD by the authors' own Lean function (tested against real Go, not proved from fmt's source: count such statements apart). THE CARD IS WHAT COUNTS. Prove the row's statement (the work); the ties are given (YtdcajmeeeoofgaaGreatDoorTie.lean); close each card by the builder's one call (the guide's Derived/Test/ToyasCard.lean, 'card_holds'). Laid BY PROGRAM, IN A SANDBOX (cutbox-door.mjs). By AI agents, Wed Nov 11 2026. No macro, syntax, notation, axiom, sorry.
-/
import Derived.Test.YtdcajmeeeoofgaaGreatDoorRows
import GoSem.ClaimSeven
namespace Go.Proofs.YtdcajmeeeoofgaaGreatDoor
namespace Rows

/-- THE TIED CARD OF 'corbellaw14.FlatMakes'. -/
def flatMakesCard : Claim7 := { stood := { row := flatMakesRow, standIns := [], harness := (true, "950135b13624c6c6c17c150436c7b9f32908e00da0a166576e77cc82205e9ea5"), looks := true }, kinds := [], alts := [], laidByText := true, laidKinds := [.data, .data, .data, .data, .sentinel, .sentinel, .pinned], laidTests := true, laidLooks := .later }
def FlatMakesCardSaid : Prop := Claim7.holds Tryz.pinned (.plain (OpenSpec.ofChange flatMakesSpec)) flatMakesCard

/-- THE SECOND FORM's CARD OF 'corbellaw14.FlatMakes'. -/
def flatMakesUptoCard : Claim7 := { stood := { row := flatMakesUptoRow, standIns := [], harness := (true, "950135b13624c6c6c17c150436c7b9f32908e00da0a166576e77cc82205e9ea5"), looks := true }, kinds := [], alts := [], laidByText := true, laidKinds := [.data, .data, .data, .data, .sentinel, .sentinel, .pinned], laidTests := true, laidLooks := .later }
def FlatMakesUptoCardSaid : Prop := Claim7.holds Tryz.pinned (.plain (OpenSpec.upto flatMakesSpec)) flatMakesUptoCard
end Rows
end Go.Proofs.YtdcajmeeeoofgaaGreatDoor
