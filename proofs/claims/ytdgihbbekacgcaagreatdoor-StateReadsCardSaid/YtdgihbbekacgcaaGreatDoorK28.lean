/- ScanKeeps, of its plain program: what it calls. -/
import Derived.Test.YtdgihbbekacgcaaGreatDoorK26
namespace Go.Proofs.W.Q9
open Go Go.Proofs.V
set_option linter.unusedVariables false
set_option linter.unusedSimpArgs false
theorem rows_refl (a : List (List UInt8)) (hl : a.length < 300000000000) : ref01_Rows (a, a) = some true := by
  unfold ref01_Rows
  rw [if_neg (by simp)]
  refine loop_true a.length (by omega) (fun again => by rw [if_neg (by simp)]) fun i hi again ha => ?_
  rw [if_pos (by simp; omega), ixL_nat hi, ixL_nat hi, wrap_succ (by omega), ha]
  rw [if_neg (by simp)]
end Go.Proofs.W.Q9
