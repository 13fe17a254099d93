/- Rows of paths that go up. -/
import Derived.Test.YtdgihbbekacgcaaGreatDoorK20
import Derived.Test.YtdgihbbekacgcaaGreatDoorK23
import Derived.Sort.KeysCollected
namespace Go.Proofs.W.Q10
open Go Go.Proofs Go.Proofs.V Go.Proofs.W Go.RowKit
set_option linter.unusedVariables false
set_option linter.unusedSimpArgs false
theorem lt_bytes : ∀ x y : List UInt8, x < y ↔ Op.bytesLess x y = true
  | [], [] => by simp [Op.bytesLess]
  | [], y :: ys => by simp [Op.bytesLess]
  | x :: xs, [] => by simp [Op.bytesLess]
  | x :: xs, y :: ys => by
    rw [List.cons_lt_cons_iff, lt_bytes xs ys]
    simp [Op.bytesLess]
theorem less_irrefl (x : List UInt8) : Op.bytesLess x x = false := by
  cases h : Op.bytesLess x x with
  | false => rfl
  | true => exact absurd ((lt_bytes x x).2 h) (List.lt_irrefl x)
end Go.Proofs.W.Q10
