/-
  DERIVED. GIVEN WITH THE SEED: THE CARDS: each row of YtdlhocghiaghfaaGreatDoorRows.lean that lists a variable, with what it lists TIED to the program's text (the seventh form; the later family's looks); each row that meets fmt, with fmt's text TOLD by the authors' own Lean function (tested against real Go, not proved from fmt's source: count such statements apart). THE CARD IS WHAT COUNTS. Prove the row's statement (the work); the ties are given (YtdlhocghiaghfaaGreatDoorTie.lean); close each card by the builder's one call (the guide's Derived/Test/ToyasCard.lean, 'card_holds'). Laid BY PROGRAM, IN A SANDBOX (cutbox-door.mjs). By AI agents, Wed Nov 11 2026. No macro, syntax, notation, axiom, sorry.
-/
import Derived.Test.YtdlhocghiaghfaaGreatDoorRows
import GoSem.ClaimSeven
namespace Go.Proofs.YtdlhocghiaghfaaGreatDoor
namespace Rows

/-- THE TIED CARD OF 'corbellaw14.FlatChecks'. -/
def flatChecksCard : Claim7 := { stood := { row := flatChecksRow, standIns := [], harness := (true, "1f7aadac0e4e101d711471f62506f0da17e8f12ac3b9239ed9d4c3fda3b2aaa1"), looks := true }, kinds := [], alts := [], laidByText := true, laidKinds := [.data, .data, .data, .data, .sentinel, .sentinel, .pinned], laidTests := true, laidLooks := .later }
def FlatChecksCardSaid : Prop := Claim7.holds Tryz.pinned (.plain (OpenSpec.ofChange flatChecksSpec)) flatChecksCard

/-- THE TIED CARD OF 'corbellaw18.PeepCome'. -/
def peepComeCard : Claim7 := { stood := { row := peepComeRow, standIns := [], harness := (true, "1f7aadac0e4e101d711471f62506f0da17e8f12ac3b9239ed9d4c3fda3b2aaa1"), looks := true }, kinds := [], alts := [], laidByText := true, laidKinds := [.data, .data, .data, .data, .sentinel, .sentinel, .pinned], laidTests := true, laidLooks := .later }
def PeepComeCardSaid : Prop := Claim7.holds Tryz.pinned (.plain (OpenSpec.ofChange peepComeSpec)) peepComeCard

/-- THE TIED CARD OF 'corbellaw18.PeepAlone'. -/
def peepAloneCard : Claim7 := { stood := { row := peepAloneRow, standIns := [], harness := (true, "1f7aadac0e4e101d711471f62506f0da17e8f12ac3b9239ed9d4c3fda3b2aaa1"), looks := true }, kinds := [], alts := [], laidByText := true, laidKinds := [.data, .data, .data, .data, .sentinel, .sentinel, .pinned], laidTests := true, laidLooks := .later }
def PeepAloneCardSaid : Prop := Claim7.holds Tryz.pinned (.plain (OpenSpec.ofChange peepAloneSpec)) peepAloneCard

/-- THE TIED CARD OF 'corbellaw18.PeepRests'. -/
def peepRestsCard : Claim7 := { stood := { row := peepRestsRow, standIns := [], harness := (true, "1f7aadac0e4e101d711471f62506f0da17e8f12ac3b9239ed9d4c3fda3b2aaa1"), looks := true }, kinds := [], alts := [], laidByText := true, laidKinds := [.data, .data, .data, .data, .sentinel, .sentinel, .pinned], laidTests := true, laidLooks := .later }
def PeepRestsCardSaid : Prop := Claim7.holds Tryz.pinned (.plain (OpenSpec.ofChange peepRestsSpec)) peepRestsCard

/-- THE TIED CARD OF 'corbellaw16.LiveAfter'. -/
def liveAfterCard : Claim7 := { stood := { row := liveAfterRow, standIns := [], harness := (true, "1f7aadac0e4e101d711471f62506f0da17e8f12ac3b9239ed9d4c3fda3b2aaa1"), looks := true }, kinds := [], alts := [], laidByText := true, laidKinds := [.data, .data, .data, .data, .sentinel, .sentinel, .pinned], laidTests := true, laidLooks := .later }
def LiveAfterCardSaid : Prop := Claim7.holds Tryz.pinned (.plain (OpenSpec.ofChange liveAfterSpec)) liveAfterCard

/-- THE TIED CARD OF 'corbellaw16.LiveFlows'. -/
def liveFlowsCard : Claim7 := { stood := { row := liveFlowsRow, standIns := [], harness := (true, "1f7aadac0e4e101d711471f62506f0da17e8f12ac3b9239ed9d4c3fda3b2aaa1"), looks := true }, kinds := [], alts := [], laidByText := true, laidKinds := [.data, .data, .data, .data, .sentinel, .sentinel, .pinned], laidTests := true, laidLooks := .later }
def LiveFlowsCardSaid : Prop := Claim7.holds Tryz.pinned (.plain (OpenSpec.ofChange liveFlowsSpec)) liveFlowsCard

/-- THE TIED CARD OF 'corbellaw16.LiveEnds'. -/
def liveEndsCard : Claim7 := { stood := { row := liveEndsRow, standIns := [], harness := (true, "1f7aadac0e4e101d711471f62506f0da17e8f12ac3b9239ed9d4c3fda3b2aaa1"), looks := true }, kinds := [], alts := [], laidByText := true, laidKinds := [.data, .data, .data, .data, .sentinel, .sentinel, .pinned], laidTests := true, laidLooks := .later }
def LiveEndsCardSaid : Prop := Claim7.holds Tryz.pinned (.plain (OpenSpec.ofChange liveEndsSpec)) liveEndsCard

/-- THE TIED CARD OF 'corbellaw16.LiveMore'. -/
def liveMoreCard : Claim7 := { stood := { row := liveMoreRow, standIns := [], harness := (true, "1f7aadac0e4e101d711471f62506f0da17e8f12ac3b9239ed9d4c3fda3b2aaa1"), looks := true }, kinds := [], alts := [], laidByText := true, laidKinds := [.data, .data, .data, .data, .sentinel, .sentinel, .pinned], laidTests := true, laidLooks := .later }
def LiveMoreCardSaid : Prop := Claim7.holds Tryz.pinned (.plain (OpenSpec.ofChange liveMoreSpec)) liveMoreCard

/-- THE TIED CARD OF 'corbellaw16.LiveSound'. -/
def liveSoundCard : Claim7 := { stood := { row := liveSoundRow, standIns := [], harness := (true, "1f7aadac0e4e101d711471f62506f0da17e8f12ac3b9239ed9d4c3fda3b2aaa1"), looks := true }, kinds := [], alts := [], laidByText := true, laidKinds := [.data, .data, .data, .data, .sentinel, .sentinel, .pinned], laidTests := true, laidLooks := .later }
def LiveSoundCardSaid : Prop := Claim7.holds Tryz.pinned (.plain (OpenSpec.ofChange liveSoundSpec)) liveSoundCard

/-- THE SECOND FORM's CARD OF 'corbellaw14.FlatChecks'. -/
def flatChecksUptoCard : Claim7 := { stood := { row := flatChecksUptoRow, standIns := [], harness := (true, "1f7aadac0e4e101d711471f62506f0da17e8f12ac3b9239ed9d4c3fda3b2aaa1"), looks := true }, kinds := [], alts := [], laidByText := true, laidKinds := [.data, .data, .data, .data, .sentinel, .sentinel, .pinned], laidTests := true, laidLooks := .later }
def FlatChecksUptoCardSaid : Prop := Claim7.holds Tryz.pinned (.plain (OpenSpec.upto flatChecksSpec)) flatChecksUptoCard

/-- THE SECOND FORM's CARD OF 'corbellaw18.PeepCome'. -/
def peepComeUptoCard : Claim7 := { stood := { row := peepComeUptoRow, standIns := [], harness := (true, "1f7aadac0e4e101d711471f62506f0da17e8f12ac3b9239ed9d4c3fda3b2aaa1"), looks := true }, kinds := [], alts := [], laidByText := true, laidKinds := [.data, .data, .data, .data, .sentinel, .sentinel, .pinned], laidTests := true, laidLooks := .later }
def PeepComeUptoCardSaid : Prop := Claim7.holds Tryz.pinned (.plain (OpenSpec.upto peepComeSpec)) peepComeUptoCard

/-- THE SECOND FORM's CARD OF 'corbellaw18.PeepAlone'. -/
def peepAloneUptoCard : Claim7 := { stood := { row := peepAloneUptoRow, standIns := [], harness := (true, "1f7aadac0e4e101d711471f62506f0da17e8f12ac3b9239ed9d4c3fda3b2aaa1"), looks := true }, kinds := [], alts := [], laidByText := true, laidKinds := [.data, .data, .data, .data, .sentinel, .sentinel, .pinned], laidTests := true, laidLooks := .later }
def PeepAloneUptoCardSaid : Prop := Claim7.holds Tryz.pinned (.plain (OpenSpec.upto peepAloneSpec)) peepAloneUptoCard

/-- THE SECOND FORM's CARD OF 'corbellaw18.PeepRests'. -/
def peepRestsUptoCard : Claim7 := { stood := { row := peepRestsUptoRow, standIns := [], harness := (true, "1f7aadac0e4e101d711471f62506f0da17e8f12ac3b9239ed9d4c3fda3b2aaa1"), looks := true }, kinds := [], alts := [], laidByText := true, laidKinds := [.data, .data, .data, .data, .sentinel, .sentinel, .pinned], laidTests := true, laidLooks := .later }
def PeepRestsUptoCardSaid : Prop := Claim7.holds Tryz.pinned (.plain (OpenSpec.upto peepRestsSpec)) peepRestsUptoCard

/-- THE SECOND FORM's CARD OF 'corbellaw16.LiveAfter'. -/
def liveAfterUptoCard : Claim7 := { stood := { row := liveAfterUptoRow, standIns := [], harness := (true, "1f7aadac0e4e101d711471f62506f0da17e8f12ac3b9239ed9d4c3fda3b2aaa1"), looks := true }, kinds := [], alts := [], laidByText := true, laidKinds := [.data, .data, .data, .data, .sentinel, .sentinel, .pinned], laidTests := true, laidLooks := .later }
def LiveAfterUptoCardSaid : Prop := Claim7.holds Tryz.pinned (.plain (OpenSpec.upto liveAfterSpec)) liveAfterUptoCard

/-- THE SECOND FORM's CARD OF 'corbellaw16.LiveFlows'. -/
def liveFlowsUptoCard : Claim7 := { stood := { row := liveFlowsUptoRow, standIns := [], harness := (true, "1f7aadac0e4e101d711471f62506f0da17e8f12ac3b9239ed9d4c3fda3b2aaa1"), looks := true }, kinds := [], alts := [], laidByText := true, laidKinds := [.data, .data, .data, .data, .sentinel, .sentinel, .pinned], laidTests := true, laidLooks := .later }
def LiveFlowsUptoCardSaid : Prop := Claim7.holds Tryz.pinned (.plain (OpenSpec.upto liveFlowsSpec)) liveFlowsUptoCard

/-- THE SECOND FORM's CARD OF 'corbellaw16.LiveEnds'. -/
def liveEndsUptoCard : Claim7 := { stood := { row := liveEndsUptoRow, standIns := [], harness := (true, "1f7aadac0e4e101d711471f62506f0da17e8f12ac3b9239ed9d4c3fda3b2aaa1"), looks := true }, kinds := [], alts := [], laidByText := true, laidKinds := [.data, .data, .data, .data, .sentinel, .sentinel, .pinned], laidTests := true, laidLooks := .later }
def LiveEndsUptoCardSaid : Prop := Claim7.holds Tryz.pinned (.plain (OpenSpec.upto liveEndsSpec)) liveEndsUptoCard

/-- THE SECOND FORM's CARD OF 'corbellaw16.LiveMore'. -/
def liveMoreUptoCard : Claim7 := { stood := { row := liveMoreUptoRow, standIns := [], harness := (true, "1f7aadac0e4e101d711471f62506f0da17e8f12ac3b9239ed9d4c3fda3b2aaa1"), looks := true }, kinds := [], alts := [], laidByText := true, laidKinds := [.data, .data, .data, .data, .sentinel, .sentinel, .pinned], laidTests := true, laidLooks := .later }
def LiveMoreUptoCardSaid : Prop := Claim7.holds Tryz.pinned (.plain (OpenSpec.upto liveMoreSpec)) liveMoreUptoCard

/-- THE SECOND FORM's CARD OF 'corbellaw16.LiveSound'. -/
def liveSoundUptoCard : Claim7 := { stood := { row := liveSoundUptoRow, standIns := [], harness := (true, "1f7aadac0e4e101d711471f62506f0da17e8f12ac3b9239ed9d4c3fda3b2aaa1"), looks := true }, kinds := [], alts := [], laidByText := true, laidKinds := [.data, .data, .data, .data, .sentinel, .sentinel, .pinned], laidTests := true, laidLooks := .later }
def LiveSoundUptoCardSaid : Prop := Claim7.holds Tryz.pinned (.plain (OpenSpec.upto liveSoundSpec)) liveSoundUptoCard
end Rows
end Go.Proofs.YtdlhocghiaghfaaGreatDoor
