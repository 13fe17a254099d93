/- Arguments of laws, read, at any seat. -/
import Derived.Test.YtdgihbbekacgcaaGreatDoorK32
import Derived.ChangeArms
import Derived.DataReads
namespace Go.Proofs.W.C
open Go Go.Proofs Go.Proofs.V Go.Proofs.W Go.RowKit
set_option linter.unusedVariables false
set_option linter.unusedSimpArgs false
set_option maxRecDepth 100000
theorem cons_of {α : Type} {l : List α} {n : Nat} (h : l.length = n + 1) : ∃ a l', l = a :: l' ∧ l'.length = n := by
  cases l with
  | nil => cases h
  | cons a l' => exact ⟨a, l', rfl, by simpa using h⟩
section
variable {H : Type} {enc : TypeId × Value → H} {W : World}
variable {P : Program}
end
end Go.Proofs.W.C
