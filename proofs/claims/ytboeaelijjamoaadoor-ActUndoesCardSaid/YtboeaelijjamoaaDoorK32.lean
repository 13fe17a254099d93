/- ScanKeeps, of its plain program: what it calls. -/
import Derived.Test.YtboeaelijjamoaaDoorK30
namespace Go.Proofs.W.Q9
open Go Go.Proofs.V
set_option linter.unusedVariables false
set_option linter.unusedSimpArgs false
theorem treeSame_refl (a : List Fi) (hl : a.length < 300000000000) : tree_Same (a, a) = some true := by
  unfold tree_Same slices_Equal_File
  rw [if_neg (by simp)]
  rw [fixS_idx a.length (fun _ => some true) (by omega)]
  · rfl
  · intro again
    rw [if_neg (by simp)]
  · intro i hi again ha
    rw [if_pos (by simp; omega), ixL_nat hi, ixL_nat hi, wrap_succ (by omega), ha]
    rw [if_neg (by simp)]
theorem sorted_ok {c : List (List UInt8)} (hl : c.length < 300000000000) (hp : ∀ q ∈ c, path_Right q = some true) (hu : Asc id c) : path_Sorted c = some true := by
  unfold path_Sorted
  refine loop_true c.length (by omega) (fun again => by rw [if_neg (by simp)]) fun i hi again ha => ?_
  rw [if_pos (by simp; omega), ixL_nat hi, wrap_succ (by omega), hp _ (List.getElem_mem hi)]
  simp only [Option.bind_some]
  rw [if_neg (by simp)]
  split
  · rename_i hpos
    have hpos : 0 < i := by simpa using hpos
    obtain ⟨i, rfl⟩ : ∃ i', i = i' + 1 := ⟨i - 1, by omega⟩
    rw [pred64 hpos (by omega), ixL_nat (by omega)]
    have hu := up_of hu i hi
    rw [if_neg (by simpa [rgt] using hu)]
    exact ha
  · exact ha
end Go.Proofs.W.Q9
