/-
  DERIVED. GIVEN WITH THE SEED: THE CARDS: each row of YtboeaelijjamoaaDoorRows.lean that lists a variable, with what it lists TIED to the program's text (the seventh form; the later family's looks); each row that meets fmt, with fmt's text TOLD by the authors' own Lean function (tested against real Go, not proved from fmt's source: count such statements apart). THE CARD IS WHAT COUNTS. Prove the row's statement (the work); the ties are given (YtboeaelijjamoaaDoorTie.lean); close each card by the builder's one call (the guide's Derived/Test/ToyasCard.lean, 'card_holds'). Laid BY PROGRAM, IN A SANDBOX (cutbox-door.mjs). By AI agents, Wed Nov 11 2026. No macro, syntax, notation, axiom, sorry.
-/
import Derived.Test.YtboeaelijjamoaaDoorRows
import GoSem.ClaimSeven
namespace Go.Proofs.YtboeaelijjamoaaDoor
namespace Rows

/-- THE TIED CARD OF 'carpetbaglaw11.ActKeeps'. -/
def actKeepsCard : Claim7 := { stood := { row := actKeepsRow, standIns := [], harness := (true, "fa757c08613b0ed9b2c2a19cc279d53c39fffdcfe1d42c3c868547b17c44e116"), looks := false }, kinds := [], alts := [], laidByText := true, laidKinds := [.data, .pinned], laidTests := true, laidLooks := .later }
def ActKeepsCardSaid : Prop := Claim7.holds Tryd.pinned (.plain (OpenSpec.ofChange actKeepsSpec)) actKeepsCard

/-- THE TIED CARD OF 'carpetbaglaw11.ActParts'. -/
def actPartsCard : Claim7 := { stood := { row := actPartsRow, standIns := [], harness := (true, "fa757c08613b0ed9b2c2a19cc279d53c39fffdcfe1d42c3c868547b17c44e116"), looks := false }, kinds := [], alts := [], laidByText := true, laidKinds := [.data, .pinned], laidTests := true, laidLooks := .later }
def ActPartsCardSaid : Prop := Claim7.holds Tryd.pinned (.plain (OpenSpec.ofChange actPartsSpec)) actPartsCard

/-- THE TIED CARD OF 'carpetbaglaw11.ActRoom'. -/
def actRoomCard : Claim7 := { stood := { row := actRoomRow, standIns := [], harness := (true, "fa757c08613b0ed9b2c2a19cc279d53c39fffdcfe1d42c3c868547b17c44e116"), looks := false }, kinds := [], alts := [], laidByText := true, laidKinds := [.data, .pinned], laidTests := true, laidLooks := .later }
def ActRoomCardSaid : Prop := Claim7.holds Tryd.pinned (.plain (OpenSpec.ofChange actRoomSpec)) actRoomCard

/-- THE TIED CARD OF 'carpetbaglaw11.ActUndoes'. -/
def actUndoesCard : Claim7 := { stood := { row := actUndoesRow, standIns := [], harness := (true, "fa757c08613b0ed9b2c2a19cc279d53c39fffdcfe1d42c3c868547b17c44e116"), looks := false }, kinds := [], alts := [], laidByText := true, laidKinds := [.data, .pinned], laidTests := true, laidLooks := .later }
def ActUndoesCardSaid : Prop := Claim7.holds Tryd.pinned (.plain (OpenSpec.ofChange actUndoesSpec)) actUndoesCard

/-- THE TIED CARD OF 'carpetbaglaw11.ActPlans'. -/
def actPlansCard : Claim7 := { stood := { row := actPlansRow, standIns := [], harness := (true, "fa757c08613b0ed9b2c2a19cc279d53c39fffdcfe1d42c3c868547b17c44e116"), looks := false }, kinds := [], alts := [], laidByText := true, laidKinds := [.data, .pinned], laidTests := true, laidLooks := .later }
def ActPlansCardSaid : Prop := Claim7.holds Tryd.pinned (.plain (OpenSpec.ofChange actPlansSpec)) actPlansCard

/-- THE SECOND FORM's CARD OF 'carpetbaglaw11.ActKeeps'. -/
def actKeepsUptoCard : Claim7 := { stood := { row := actKeepsUptoRow, standIns := [], harness := (true, "fa757c08613b0ed9b2c2a19cc279d53c39fffdcfe1d42c3c868547b17c44e116"), looks := false }, kinds := [], alts := [], laidByText := true, laidKinds := [.data, .pinned], laidTests := true, laidLooks := .later }
def ActKeepsUptoCardSaid : Prop := Claim7.holds Tryd.pinned (.plain (OpenSpec.upto actKeepsSpec)) actKeepsUptoCard

/-- THE SECOND FORM's CARD OF 'carpetbaglaw11.ActParts'. -/
def actPartsUptoCard : Claim7 := { stood := { row := actPartsUptoRow, standIns := [], harness := (true, "fa757c08613b0ed9b2c2a19cc279d53c39fffdcfe1d42c3c868547b17c44e116"), looks := false }, kinds := [], alts := [], laidByText := true, laidKinds := [.data, .pinned], laidTests := true, laidLooks := .later }
def ActPartsUptoCardSaid : Prop := Claim7.holds Tryd.pinned (.plain (OpenSpec.upto actPartsSpec)) actPartsUptoCard

/-- THE SECOND FORM's CARD OF 'carpetbaglaw11.ActRoom'. -/
def actRoomUptoCard : Claim7 := { stood := { row := actRoomUptoRow, standIns := [], harness := (true, "fa757c08613b0ed9b2c2a19cc279d53c39fffdcfe1d42c3c868547b17c44e116"), looks := false }, kinds := [], alts := [], laidByText := true, laidKinds := [.data, .pinned], laidTests := true, laidLooks := .later }
def ActRoomUptoCardSaid : Prop := Claim7.holds Tryd.pinned (.plain (OpenSpec.upto actRoomSpec)) actRoomUptoCard

/-- THE SECOND FORM's CARD OF 'carpetbaglaw11.ActUndoes'. -/
def actUndoesUptoCard : Claim7 := { stood := { row := actUndoesUptoRow, standIns := [], harness := (true, "fa757c08613b0ed9b2c2a19cc279d53c39fffdcfe1d42c3c868547b17c44e116"), looks := false }, kinds := [], alts := [], laidByText := true, laidKinds := [.data, .pinned], laidTests := true, laidLooks := .later }
def ActUndoesUptoCardSaid : Prop := Claim7.holds Tryd.pinned (.plain (OpenSpec.upto actUndoesSpec)) actUndoesUptoCard

/-- THE SECOND FORM's CARD OF 'carpetbaglaw11.ActPlans'. -/
def actPlansUptoCard : Claim7 := { stood := { row := actPlansUptoRow, standIns := [], harness := (true, "fa757c08613b0ed9b2c2a19cc279d53c39fffdcfe1d42c3c868547b17c44e116"), looks := false }, kinds := [], alts := [], laidByText := true, laidKinds := [.data, .pinned], laidTests := true, laidLooks := .later }
def ActPlansUptoCardSaid : Prop := Claim7.holds Tryd.pinned (.plain (OpenSpec.upto actPlansSpec)) actPlansUptoCard
end Rows
end Go.Proofs.YtboeaelijjamoaaDoor
