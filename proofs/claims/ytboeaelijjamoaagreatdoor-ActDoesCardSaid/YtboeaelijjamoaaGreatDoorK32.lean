/- ScanKeeps, of its plain program: what it calls. -/
import Derived.Test.YtboeaelijjamoaaGreatDoorK30
namespace Go.Proofs.W.Q9
open Go Go.Proofs.V
set_option linter.unusedVariables false
set_option linter.unusedSimpArgs false
theorem rows_refl (a : List (List UInt8)) (hl : a.length < 300000000000) : ref01_Rows (a, a) = some true := by
  unfold ref01_Rows
  rw [if_neg (by simp)]
  refine loop_true a.length (by omega) (fun again => by rw [if_neg (by simp)]) fun i hi again ha => ?_
  rw [if_pos (by simp; omega), ixL_nat hi, ixL_nat hi, wrap_succ (by omega), ha]
  rw [if_neg (by simp)]
theorem asc_ne {α : Type} {f : α → List UInt8} {l : List α} (h : Asc f l) {i j : Nat} (hi : i < l.length) (hj : j < l.length) (hne : i ≠ j) : f l[i] ≠ f l[j] := by
  rcases Nat.lt_or_gt_of_ne hne with h1 | h1
  · exact les_ne (List.pairwise_iff_getElem.1 h i j hi hj h1)
  · exact (les_ne (List.pairwise_iff_getElem.1 h j i hj hi h1)).symm
end Go.Proofs.W.Q9
