/-
  DERIVED. GIVEN WITH THE SEED: THE CARDS: each row of YtnjfjjmlonalhaaDoorRows.lean that lists a variable, with what it lists TIED to the program's text (the seventh form; the later family's looks); each row that meets fmt, with fmt's text TOLD by the authors' own Lean function (tested against real Go, not proved from fmt's source: count such statements apart). THE CARD IS WHAT COUNTS. Prove the row's statement (the work); the ties are given (YtnjfjjmlonalhaaDoorTie.lean); close each card by the builder's one call (the guide's Derived/Test/ToyasCard.lean, 'card_holds'). Laid BY PROGRAM, IN A SANDBOX (cutbox-door.mjs). By AI agents, Wed Nov 11 2026. No macro, syntax, notation, axiom, sorry.
-/
import Derived.Test.YtnjfjjmlonalhaaDoorRows
import GoSem.ClaimSeven
namespace Go.Proofs.YtnjfjjmlonalhaaDoor
namespace Rows

/-- THE TIED CARD OF 'carpetbaglaw09.ScanTells'. -/
def scanTellsCard : Claim7 := { stood := { row := scanTellsRow, standIns := [], harness := (true, "632979c5397dc4b523e267992ce731a921de71ae8d1cdf82562deb40453dc9ad"), looks := false }, kinds := [], alts := [], laidByText := true, laidKinds := [.data, .pinned], laidTests := true, laidLooks := .later }
def ScanTellsCardSaid : Prop := Claim7.holds Tryd.pinned (.plain (OpenSpec.ofChange scanTellsSpec)) scanTellsCard

/-- THE TIED CARD OF 'carpetbaglaw09.ScanBack'. -/
def scanBackCard : Claim7 := { stood := { row := scanBackRow, standIns := [], harness := (true, "632979c5397dc4b523e267992ce731a921de71ae8d1cdf82562deb40453dc9ad"), looks := false }, kinds := [], alts := [], laidByText := true, laidKinds := [.data, .pinned], laidTests := true, laidLooks := .later }
def ScanBackCardSaid : Prop := Claim7.holds Tryd.pinned (.plain (OpenSpec.ofChange scanBackSpec)) scanBackCard

/-- THE TIED CARD OF 'carpetbaglaw09.ScanFull'. -/
def scanFullCard : Claim7 := { stood := { row := scanFullRow, standIns := [], harness := (true, "632979c5397dc4b523e267992ce731a921de71ae8d1cdf82562deb40453dc9ad"), looks := false }, kinds := [], alts := [], laidByText := true, laidKinds := [.data, .pinned], laidTests := true, laidLooks := .later }
def ScanFullCardSaid : Prop := Claim7.holds Tryd.pinned (.plain (OpenSpec.ofChange scanFullSpec)) scanFullCard

/-- THE TIED CARD OF 'carpetbaglaw09.ScanTwo'. -/
def scanTwoCard : Claim7 := { stood := { row := scanTwoRow, standIns := [], harness := (true, "632979c5397dc4b523e267992ce731a921de71ae8d1cdf82562deb40453dc9ad"), looks := false }, kinds := [], alts := [], laidByText := true, laidKinds := [.data, .pinned], laidTests := true, laidLooks := .later }
def ScanTwoCardSaid : Prop := Claim7.holds Tryd.pinned (.plain (OpenSpec.ofChange scanTwoSpec)) scanTwoCard

/-- THE TIED CARD OF 'carpetbaglaw09.ScanGone'. -/
def scanGoneCard : Claim7 := { stood := { row := scanGoneRow, standIns := [], harness := (true, "632979c5397dc4b523e267992ce731a921de71ae8d1cdf82562deb40453dc9ad"), looks := false }, kinds := [], alts := [], laidByText := true, laidKinds := [.data, .pinned], laidTests := true, laidLooks := .later }
def ScanGoneCardSaid : Prop := Claim7.holds Tryd.pinned (.plain (OpenSpec.ofChange scanGoneSpec)) scanGoneCard

/-- THE TIED CARD OF 'carpetbaglaw09.ScanKeeps'. -/
def scanKeepsCard : Claim7 := { stood := { row := scanKeepsRow, standIns := [], harness := (true, "632979c5397dc4b523e267992ce731a921de71ae8d1cdf82562deb40453dc9ad"), looks := false }, kinds := [], alts := [], laidByText := true, laidKinds := [.data, .pinned], laidTests := true, laidLooks := .later }
def ScanKeepsCardSaid : Prop := Claim7.holds Tryd.pinned (.plain (OpenSpec.ofChange scanKeepsSpec)) scanKeepsCard

/-- THE SECOND FORM's CARD OF 'carpetbaglaw09.ScanTells'. -/
def scanTellsUptoCard : Claim7 := { stood := { row := scanTellsUptoRow, standIns := [], harness := (true, "632979c5397dc4b523e267992ce731a921de71ae8d1cdf82562deb40453dc9ad"), looks := false }, kinds := [], alts := [], laidByText := true, laidKinds := [.data, .pinned], laidTests := true, laidLooks := .later }
def ScanTellsUptoCardSaid : Prop := Claim7.holds Tryd.pinned (.plain (OpenSpec.upto scanTellsSpec)) scanTellsUptoCard

/-- THE SECOND FORM's CARD OF 'carpetbaglaw09.ScanBack'. -/
def scanBackUptoCard : Claim7 := { stood := { row := scanBackUptoRow, standIns := [], harness := (true, "632979c5397dc4b523e267992ce731a921de71ae8d1cdf82562deb40453dc9ad"), looks := false }, kinds := [], alts := [], laidByText := true, laidKinds := [.data, .pinned], laidTests := true, laidLooks := .later }
def ScanBackUptoCardSaid : Prop := Claim7.holds Tryd.pinned (.plain (OpenSpec.upto scanBackSpec)) scanBackUptoCard

/-- THE SECOND FORM's CARD OF 'carpetbaglaw09.ScanFull'. -/
def scanFullUptoCard : Claim7 := { stood := { row := scanFullUptoRow, standIns := [], harness := (true, "632979c5397dc4b523e267992ce731a921de71ae8d1cdf82562deb40453dc9ad"), looks := false }, kinds := [], alts := [], laidByText := true, laidKinds := [.data, .pinned], laidTests := true, laidLooks := .later }
def ScanFullUptoCardSaid : Prop := Claim7.holds Tryd.pinned (.plain (OpenSpec.upto scanFullSpec)) scanFullUptoCard

/-- THE SECOND FORM's CARD OF 'carpetbaglaw09.ScanTwo'. -/
def scanTwoUptoCard : Claim7 := { stood := { row := scanTwoUptoRow, standIns := [], harness := (true, "632979c5397dc4b523e267992ce731a921de71ae8d1cdf82562deb40453dc9ad"), looks := false }, kinds := [], alts := [], laidByText := true, laidKinds := [.data, .pinned], laidTests := true, laidLooks := .later }
def ScanTwoUptoCardSaid : Prop := Claim7.holds Tryd.pinned (.plain (OpenSpec.upto scanTwoSpec)) scanTwoUptoCard

/-- THE SECOND FORM's CARD OF 'carpetbaglaw09.ScanGone'. -/
def scanGoneUptoCard : Claim7 := { stood := { row := scanGoneUptoRow, standIns := [], harness := (true, "632979c5397dc4b523e267992ce731a921de71ae8d1cdf82562deb40453dc9ad"), looks := false }, kinds := [], alts := [], laidByText := true, laidKinds := [.data, .pinned], laidTests := true, laidLooks := .later }
def ScanGoneUptoCardSaid : Prop := Claim7.holds Tryd.pinned (.plain (OpenSpec.upto scanGoneSpec)) scanGoneUptoCard

/-- THE SECOND FORM's CARD OF 'carpetbaglaw09.ScanKeeps'. -/
def scanKeepsUptoCard : Claim7 := { stood := { row := scanKeepsUptoRow, standIns := [], harness := (true, "632979c5397dc4b523e267992ce731a921de71ae8d1cdf82562deb40453dc9ad"), looks := false }, kinds := [], alts := [], laidByText := true, laidKinds := [.data, .pinned], laidTests := true, laidLooks := .later }
def ScanKeepsUptoCardSaid : Prop := Claim7.holds Tryd.pinned (.plain (OpenSpec.upto scanKeepsSpec)) scanKeepsUptoCard
end Rows
end Go.Proofs.YtnjfjjmlonalhaaDoor
