/-
  DERIVED. GIVEN WITH THE SEED: THE CARDS: each row of YtdgihbbekacgcaaDoorRows.lean that lists a variable, with what it lists TIED to the program's text (the seventh form; the later family's looks); each row that meets fmt, with fmt's text TOLD by the authors' own Lean function (tested against real Go, not proved from fmt's source: count such statements apart). THE CARD IS WHAT COUNTS. Prove the row's statement (the work); the ties are given (YtdgihbbekacgcaaDoorTie.lean); close each card by the builder's one call (the guide's Derived/Test/ToyasCard.lean, 'card_holds'). Laid BY PROGRAM, IN A SANDBOX (cutbox-door.mjs). By AI agents, Wed Nov 11 2026. No macro, syntax, notation, axiom, sorry.
-/
import Derived.Test.YtdgihbbekacgcaaDoorRows
import GoSem.ClaimSeven
namespace Go.Proofs.YtdgihbbekacgcaaDoor
namespace Rows

/-- THE TIED CARD OF 'carpetbaglaw17.StateBack'. -/
def stateBackCard : Claim7 := { stood := { row := stateBackRow, standIns := [], harness := (true, "e79b25051fd431359394273b0c2a16a47e10e7f89add37a379e751a7d136833b"), looks := false }, kinds := [], alts := [], laidByText := true, laidKinds := [.data, .pinned], laidTests := true, laidLooks := .later }
def StateBackCardSaid : Prop := Claim7.holds Tryd.pinned (.plain (OpenSpec.ofChange stateBackSpec)) stateBackCard

/-- THE TIED CARD OF 'carpetbaglaw17.StateApart'. -/
def stateApartCard : Claim7 := { stood := { row := stateApartRow, standIns := [], harness := (true, "e79b25051fd431359394273b0c2a16a47e10e7f89add37a379e751a7d136833b"), looks := false }, kinds := [], alts := [], laidByText := true, laidKinds := [.data, .pinned], laidTests := true, laidLooks := .later }
def StateApartCardSaid : Prop := Claim7.holds Tryd.pinned (.plain (OpenSpec.ofChange stateApartSpec)) stateApartCard

/-- THE TIED CARD OF 'carpetbaglaw17.StateCut'. -/
def stateCutCard : Claim7 := { stood := { row := stateCutRow, standIns := [], harness := (true, "e79b25051fd431359394273b0c2a16a47e10e7f89add37a379e751a7d136833b"), looks := false }, kinds := [], alts := [], laidByText := true, laidKinds := [.data, .pinned], laidTests := true, laidLooks := .later }
def StateCutCardSaid : Prop := Claim7.holds Tryd.pinned (.plain (OpenSpec.ofChange stateCutSpec)) stateCutCard

/-- THE TIED CARD OF 'carpetbaglaw17.StateNew'. -/
def stateNewCard : Claim7 := { stood := { row := stateNewRow, standIns := [], harness := (true, "e79b25051fd431359394273b0c2a16a47e10e7f89add37a379e751a7d136833b"), looks := false }, kinds := [], alts := [], laidByText := true, laidKinds := [.data, .pinned], laidTests := true, laidLooks := .later }
def StateNewCardSaid : Prop := Claim7.holds Tryd.pinned (.plain (OpenSpec.ofChange stateNewSpec)) stateNewCard

/-- THE SECOND FORM's CARD OF 'carpetbaglaw17.StateBack'. -/
def stateBackUptoCard : Claim7 := { stood := { row := stateBackUptoRow, standIns := [], harness := (true, "e79b25051fd431359394273b0c2a16a47e10e7f89add37a379e751a7d136833b"), looks := false }, kinds := [], alts := [], laidByText := true, laidKinds := [.data, .pinned], laidTests := true, laidLooks := .later }
def StateBackUptoCardSaid : Prop := Claim7.holds Tryd.pinned (.plain (OpenSpec.upto stateBackSpec)) stateBackUptoCard

/-- THE SECOND FORM's CARD OF 'carpetbaglaw17.StateApart'. -/
def stateApartUptoCard : Claim7 := { stood := { row := stateApartUptoRow, standIns := [], harness := (true, "e79b25051fd431359394273b0c2a16a47e10e7f89add37a379e751a7d136833b"), looks := false }, kinds := [], alts := [], laidByText := true, laidKinds := [.data, .pinned], laidTests := true, laidLooks := .later }
def StateApartUptoCardSaid : Prop := Claim7.holds Tryd.pinned (.plain (OpenSpec.upto stateApartSpec)) stateApartUptoCard

/-- THE SECOND FORM's CARD OF 'carpetbaglaw17.StateCut'. -/
def stateCutUptoCard : Claim7 := { stood := { row := stateCutUptoRow, standIns := [], harness := (true, "e79b25051fd431359394273b0c2a16a47e10e7f89add37a379e751a7d136833b"), looks := false }, kinds := [], alts := [], laidByText := true, laidKinds := [.data, .pinned], laidTests := true, laidLooks := .later }
def StateCutUptoCardSaid : Prop := Claim7.holds Tryd.pinned (.plain (OpenSpec.upto stateCutSpec)) stateCutUptoCard

/-- THE SECOND FORM's CARD OF 'carpetbaglaw17.StateNew'. -/
def stateNewUptoCard : Claim7 := { stood := { row := stateNewUptoRow, standIns := [], harness := (true, "e79b25051fd431359394273b0c2a16a47e10e7f89add37a379e751a7d136833b"), looks := false }, kinds := [], alts := [], laidByText := true, laidKinds := [.data, .pinned], laidTests := true, laidLooks := .later }
def StateNewUptoCardSaid : Prop := Claim7.holds Tryd.pinned (.plain (OpenSpec.upto stateNewSpec)) stateNewUptoCard
end Rows
end Go.Proofs.YtdgihbbekacgcaaDoor
