/-
  DERIVED. GIVEN WITH THE SEED: THE CARDS: each row of YtdgihbbekacgcaaGreatDoorRows.lean that lists a variable, with what it lists TIED to the program's text (the seventh form; the later family's looks); each row that meets fmt, with fmt's text TOLD by the authors' own Lean function (tested against real Go, not proved from fmt's source: count such statements apart). THE CARD IS WHAT COUNTS. Prove the row's statement (the work); the ties are given (YtdgihbbekacgcaaGreatDoorTie.lean); close each card by the builder's one call (the guide's Derived/Test/ToyasCard.lean, 'card_holds'). Laid BY PROGRAM, IN A SANDBOX (cutbox-door.mjs). By AI agents, Wed Nov 11 2026. No macro, syntax, notation, axiom, sorry.
-/
import Derived.Test.YtdgihbbekacgcaaGreatDoorRows
import GoSem.ClaimSeven
namespace Go.Proofs.YtdgihbbekacgcaaGreatDoor
namespace Rows

/-- THE TIED CARD OF 'carpetbaglaw17.StateTells'. -/
def stateTellsCard : Claim7 := { stood := { row := stateTellsRow, standIns := [], harness := (true, "4de34268b808a7afd1f75f1e198be1df0e16053e015caabdfe8ba146568b9e89"), looks := false }, kinds := [], alts := [], laidByText := true, laidKinds := [.data, .pinned], laidTests := true, laidLooks := .later }
def StateTellsCardSaid : Prop := Claim7.holds Tryz.pinned (.plain (OpenSpec.ofChange stateTellsSpec)) stateTellsCard

/-- THE TIED CARD OF 'carpetbaglaw17.StateReads'. -/
def stateReadsCard : Claim7 := { stood := { row := stateReadsRow, standIns := [], harness := (true, "4de34268b808a7afd1f75f1e198be1df0e16053e015caabdfe8ba146568b9e89"), looks := false }, kinds := [], alts := [], laidByText := true, laidKinds := [.data, .pinned], laidTests := true, laidLooks := .later }
def StateReadsCardSaid : Prop := Claim7.holds Tryz.pinned (.plain (OpenSpec.ofChange stateReadsSpec)) stateReadsCard

/-- THE SECOND FORM's CARD OF 'carpetbaglaw17.StateTells'. -/
def stateTellsUptoCard : Claim7 := { stood := { row := stateTellsUptoRow, standIns := [], harness := (true, "4de34268b808a7afd1f75f1e198be1df0e16053e015caabdfe8ba146568b9e89"), looks := false }, kinds := [], alts := [], laidByText := true, laidKinds := [.data, .pinned], laidTests := true, laidLooks := .later }
def StateTellsUptoCardSaid : Prop := Claim7.holds Tryz.pinned (.plain (OpenSpec.upto stateTellsSpec)) stateTellsUptoCard

/-- THE SECOND FORM's CARD OF 'carpetbaglaw17.StateReads'. -/
def stateReadsUptoCard : Claim7 := { stood := { row := stateReadsUptoRow, standIns := [], harness := (true, "4de34268b808a7afd1f75f1e198be1df0e16053e015caabdfe8ba146568b9e89"), looks := false }, kinds := [], alts := [], laidByText := true, laidKinds := [.data, .pinned], laidTests := true, laidLooks := .later }
def StateReadsUptoCardSaid : Prop := Claim7.holds Tryz.pinned (.plain (OpenSpec.upto stateReadsSpec)) stateReadsUptoCard
end Rows
end Go.Proofs.YtdgihbbekacgcaaGreatDoor
