/- ScanKeeps, of its plain program: what it calls. -/
import Derived.Test.YtboeaelijjamoaaDoorK30
namespace Go.Proofs.W.Q9
open Go Go.Proofs.V
set_option linter.unusedVariables false
set_option linter.unusedSimpArgs false
theorem treeSame_refl (a : List Fi) (hl : a.length < 300000000000) : tree_Same (a, a) = some true := by
  unfold tree_Same slices_Equal_File
  rw [if_neg (by simp)]
  rw [fixS_idx a.length (fun _ => some true) (by omega)]
  · rfl
  · intro again
    rw [if_neg (by simp)]
  · intro i hi again ha
    rw [if_pos (by simp; omega), ixL_nat hi, ixL_nat hi, wrap_succ (by omega), ha]
    rw [if_neg (by simp)]
end Go.Proofs.W.Q9
