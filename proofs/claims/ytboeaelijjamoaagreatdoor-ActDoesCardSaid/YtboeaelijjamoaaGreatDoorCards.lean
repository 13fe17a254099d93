/-
  DERIVED. GIVEN WITH THE SEED: THE CARDS: each row of YtboeaelijjamoaaGreatDoorRows.lean that lists a variable, with what it lists TIED to the program's text (the seventh form; the later family's looks); each row that meets fmt, with fmt's text TOLD by the authors' own Lean function (tested against real Go, not proved from fmt's source: count such statements apart). THE CARD IS WHAT COUNTS. Prove the row's statement (the work); the ties are given (YtboeaelijjamoaaGreatDoorTie.lean); close each card by the builder's one call (the guide's Derived/Test/ToyasCard.lean, 'card_holds'). Laid BY PROGRAM, IN A SANDBOX (cutbox-door.mjs). By AI agents, Wed Nov 11 2026. No macro, syntax, notation, axiom, sorry.
-/
import Derived.Test.YtboeaelijjamoaaGreatDoorRows
import GoSem.ClaimSeven
namespace Go.Proofs.YtboeaelijjamoaaGreatDoor
namespace Rows

/-- THE TIED CARD OF 'carpetbaglaw11.ActDoes'. -/
def actDoesCard : Claim7 := { stood := { row := actDoesRow, standIns := [], harness := (true, "8272cbfdc213b24f2de1f5b6eadccb4ae6706cf4c69b189f418814d66e205c92"), looks := false }, kinds := [], alts := [], laidByText := true, laidKinds := [.data, .pinned], laidTests := true, laidLooks := .later }
def ActDoesCardSaid : Prop := Claim7.holds Tryz.pinned (.plain (OpenSpec.ofChange actDoesSpec)) actDoesCard

/-- THE SECOND FORM's CARD OF 'carpetbaglaw11.ActDoes'. -/
def actDoesUptoCard : Claim7 := { stood := { row := actDoesUptoRow, standIns := [], harness := (true, "8272cbfdc213b24f2de1f5b6eadccb4ae6706cf4c69b189f418814d66e205c92"), looks := false }, kinds := [], alts := [], laidByText := true, laidKinds := [.data, .pinned], laidTests := true, laidLooks := .later }
def ActDoesUptoCardSaid : Prop := Claim7.holds Tryz.pinned (.plain (OpenSpec.upto actDoesSpec)) actDoesUptoCard
end Rows
end Go.Proofs.YtboeaelijjamoaaGreatDoor
