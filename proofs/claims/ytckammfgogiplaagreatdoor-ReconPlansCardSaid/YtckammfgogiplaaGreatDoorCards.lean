/-
  DERIVED. GIVEN WITH THE SEED: THE CARDS: each row of YtckammfgogiplaaGreatDoorRows.lean that lists a variable, with what it lists TIED to the program's text (the seventh form; the later family's looks); each row that meets fmt, with fmt's text TOLD by the authors' own Lean function (tested against real Go, not proved from fmt's source: count such statements apart). THE CARD IS WHAT COUNTS. Prove the row's statement (the work); the ties are given (YtckammfgogiplaaGreatDoorTie.lean); close each card by the builder's one call (the guide's Derived/Test/ToyasCard.lean, 'card_holds'). Laid BY PROGRAM, IN A SANDBOX (cutbox-door.mjs). By AI agents, Wed Nov 11 2026. No macro, syntax, notation, axiom, sorry.
-/
import Derived.Test.YtckammfgogiplaaGreatDoorRows
import GoSem.ClaimSeven
namespace Go.Proofs.YtckammfgogiplaaGreatDoor
namespace Rows

/-- THE TIED CARD OF 'carpetbaglaw10.ReconMerges'. -/
def reconMergesCard : Claim7 := { stood := { row := reconMergesRow, standIns := [], harness := (true, "d8d1a5810825a43bc584e3a31321401abf0dffc46f8693e7dcc02f7585e83c48"), looks := false }, kinds := [], alts := [], laidByText := true, laidKinds := [.data, .pinned], laidTests := true, laidLooks := .later }
def ReconMergesCardSaid : Prop := Claim7.holds Tryz.pinned (.plain (OpenSpec.ofChange reconMergesSpec)) reconMergesCard

/-- THE TIED CARD OF 'carpetbaglaw10.ReconPlans'. -/
def reconPlansCard : Claim7 := { stood := { row := reconPlansRow, standIns := [], harness := (true, "d8d1a5810825a43bc584e3a31321401abf0dffc46f8693e7dcc02f7585e83c48"), looks := false }, kinds := [], alts := [], laidByText := true, laidKinds := [.data, .pinned], laidTests := true, laidLooks := .later }
def ReconPlansCardSaid : Prop := Claim7.holds Tryz.pinned (.plain (OpenSpec.ofChange reconPlansSpec)) reconPlansCard

/-- THE TIED CARD OF 'carpetbaglaw10.ReconSettles'. -/
def reconSettlesCard : Claim7 := { stood := { row := reconSettlesRow, standIns := [], harness := (true, "d8d1a5810825a43bc584e3a31321401abf0dffc46f8693e7dcc02f7585e83c48"), looks := false }, kinds := [], alts := [], laidByText := true, laidKinds := [.data, .pinned], laidTests := true, laidLooks := .later }
def ReconSettlesCardSaid : Prop := Claim7.holds Tryz.pinned (.plain (OpenSpec.ofChange reconSettlesSpec)) reconSettlesCard

/-- THE TIED CARD OF 'carpetbaglaw10.ReconPlanned'. -/
def reconPlannedCard : Claim7 := { stood := { row := reconPlannedRow, standIns := [], harness := (true, "d8d1a5810825a43bc584e3a31321401abf0dffc46f8693e7dcc02f7585e83c48"), looks := false }, kinds := [], alts := [], laidByText := true, laidKinds := [.data, .pinned], laidTests := true, laidLooks := .later }
def ReconPlannedCardSaid : Prop := Claim7.holds Tryz.pinned (.plain (OpenSpec.ofChange reconPlannedSpec)) reconPlannedCard

/-- THE TIED CARD OF 'carpetbaglaw10.ReconTurned'. -/
def reconTurnedCard : Claim7 := { stood := { row := reconTurnedRow, standIns := [], harness := (true, "d8d1a5810825a43bc584e3a31321401abf0dffc46f8693e7dcc02f7585e83c48"), looks := false }, kinds := [], alts := [], laidByText := true, laidKinds := [.data, .pinned], laidTests := true, laidLooks := .later }
def ReconTurnedCardSaid : Prop := Claim7.holds Tryz.pinned (.plain (OpenSpec.ofChange reconTurnedSpec)) reconTurnedCard

/-- THE TIED CARD OF 'carpetbaglaw10.ReconOwn'. -/
def reconOwnCard : Claim7 := { stood := { row := reconOwnRow, standIns := [], harness := (true, "d8d1a5810825a43bc584e3a31321401abf0dffc46f8693e7dcc02f7585e83c48"), looks := false }, kinds := [], alts := [], laidByText := true, laidKinds := [.data, .pinned], laidTests := true, laidLooks := .later }
def ReconOwnCardSaid : Prop := Claim7.holds Tryz.pinned (.plain (OpenSpec.ofChange reconOwnSpec)) reconOwnCard

/-- THE TIED CARD OF 'carpetbaglaw10.ReconThree'. -/
def reconThreeCard : Claim7 := { stood := { row := reconThreeRow, standIns := [], harness := (true, "d8d1a5810825a43bc584e3a31321401abf0dffc46f8693e7dcc02f7585e83c48"), looks := false }, kinds := [], alts := [], laidByText := true, laidKinds := [.data, .pinned], laidTests := true, laidLooks := .later }
def ReconThreeCardSaid : Prop := Claim7.holds Tryz.pinned (.plain (OpenSpec.ofChange reconThreeSpec)) reconThreeCard

/-- THE TIED CARD OF 'carpetbaglaw10.ReconSides'. -/
def reconSidesCard : Claim7 := { stood := { row := reconSidesRow, standIns := [], harness := (true, "d8d1a5810825a43bc584e3a31321401abf0dffc46f8693e7dcc02f7585e83c48"), looks := false }, kinds := [], alts := [], laidByText := true, laidKinds := [.data, .pinned], laidTests := true, laidLooks := .later }
def ReconSidesCardSaid : Prop := Claim7.holds Tryz.pinned (.plain (OpenSpec.ofChange reconSidesSpec)) reconSidesCard

/-- THE SECOND FORM's CARD OF 'carpetbaglaw10.ReconMerges'. -/
def reconMergesUptoCard : Claim7 := { stood := { row := reconMergesUptoRow, standIns := [], harness := (true, "d8d1a5810825a43bc584e3a31321401abf0dffc46f8693e7dcc02f7585e83c48"), looks := false }, kinds := [], alts := [], laidByText := true, laidKinds := [.data, .pinned], laidTests := true, laidLooks := .later }
def ReconMergesUptoCardSaid : Prop := Claim7.holds Tryz.pinned (.plain (OpenSpec.upto reconMergesSpec)) reconMergesUptoCard

/-- THE SECOND FORM's CARD OF 'carpetbaglaw10.ReconPlans'. -/
def reconPlansUptoCard : Claim7 := { stood := { row := reconPlansUptoRow, standIns := [], harness := (true, "d8d1a5810825a43bc584e3a31321401abf0dffc46f8693e7dcc02f7585e83c48"), looks := false }, kinds := [], alts := [], laidByText := true, laidKinds := [.data, .pinned], laidTests := true, laidLooks := .later }
def ReconPlansUptoCardSaid : Prop := Claim7.holds Tryz.pinned (.plain (OpenSpec.upto reconPlansSpec)) reconPlansUptoCard

/-- THE SECOND FORM's CARD OF 'carpetbaglaw10.ReconSettles'. -/
def reconSettlesUptoCard : Claim7 := { stood := { row := reconSettlesUptoRow, standIns := [], harness := (true, "d8d1a5810825a43bc584e3a31321401abf0dffc46f8693e7dcc02f7585e83c48"), looks := false }, kinds := [], alts := [], laidByText := true, laidKinds := [.data, .pinned], laidTests := true, laidLooks := .later }
def ReconSettlesUptoCardSaid : Prop := Claim7.holds Tryz.pinned (.plain (OpenSpec.upto reconSettlesSpec)) reconSettlesUptoCard

/-- THE SECOND FORM's CARD OF 'carpetbaglaw10.ReconPlanned'. -/
def reconPlannedUptoCard : Claim7 := { stood := { row := reconPlannedUptoRow, standIns := [], harness := (true, "d8d1a5810825a43bc584e3a31321401abf0dffc46f8693e7dcc02f7585e83c48"), looks := false }, kinds := [], alts := [], laidByText := true, laidKinds := [.data, .pinned], laidTests := true, laidLooks := .later }
def ReconPlannedUptoCardSaid : Prop := Claim7.holds Tryz.pinned (.plain (OpenSpec.upto reconPlannedSpec)) reconPlannedUptoCard

/-- THE SECOND FORM's CARD OF 'carpetbaglaw10.ReconTurned'. -/
def reconTurnedUptoCard : Claim7 := { stood := { row := reconTurnedUptoRow, standIns := [], harness := (true, "d8d1a5810825a43bc584e3a31321401abf0dffc46f8693e7dcc02f7585e83c48"), looks := false }, kinds := [], alts := [], laidByText := true, laidKinds := [.data, .pinned], laidTests := true, laidLooks := .later }
def ReconTurnedUptoCardSaid : Prop := Claim7.holds Tryz.pinned (.plain (OpenSpec.upto reconTurnedSpec)) reconTurnedUptoCard

/-- THE SECOND FORM's CARD OF 'carpetbaglaw10.ReconOwn'. -/
def reconOwnUptoCard : Claim7 := { stood := { row := reconOwnUptoRow, standIns := [], harness := (true, "d8d1a5810825a43bc584e3a31321401abf0dffc46f8693e7dcc02f7585e83c48"), looks := false }, kinds := [], alts := [], laidByText := true, laidKinds := [.data, .pinned], laidTests := true, laidLooks := .later }
def ReconOwnUptoCardSaid : Prop := Claim7.holds Tryz.pinned (.plain (OpenSpec.upto reconOwnSpec)) reconOwnUptoCard

/-- THE SECOND FORM's CARD OF 'carpetbaglaw10.ReconThree'. -/
def reconThreeUptoCard : Claim7 := { stood := { row := reconThreeUptoRow, standIns := [], harness := (true, "d8d1a5810825a43bc584e3a31321401abf0dffc46f8693e7dcc02f7585e83c48"), looks := false }, kinds := [], alts := [], laidByText := true, laidKinds := [.data, .pinned], laidTests := true, laidLooks := .later }
def ReconThreeUptoCardSaid : Prop := Claim7.holds Tryz.pinned (.plain (OpenSpec.upto reconThreeSpec)) reconThreeUptoCard

/-- THE SECOND FORM's CARD OF 'carpetbaglaw10.ReconSides'. -/
def reconSidesUptoCard : Claim7 := { stood := { row := reconSidesUptoRow, standIns := [], harness := (true, "d8d1a5810825a43bc584e3a31321401abf0dffc46f8693e7dcc02f7585e83c48"), looks := false }, kinds := [], alts := [], laidByText := true, laidKinds := [.data, .pinned], laidTests := true, laidLooks := .later }
def ReconSidesUptoCardSaid : Prop := Claim7.holds Tryz.pinned (.plain (OpenSpec.upto reconSidesSpec)) reconSidesUptoCard
end Rows
end Go.Proofs.YtckammfgogiplaaGreatDoor
