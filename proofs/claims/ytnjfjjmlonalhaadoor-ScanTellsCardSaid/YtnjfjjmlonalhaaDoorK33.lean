/- ScanKeeps, of its plain program: what it calls. -/
import Derived.Test.YtnjfjjmlonalhaaDoorK31
namespace Go.Proofs.W.Q9
open Go Go.Proofs.V
set_option linter.unusedVariables false
set_option linter.unusedSimpArgs false
theorem rows_refl (a : List (List UInt8)) (hl : a.length < 300000000000) : ref01_Rows (a, a) = some true := by
  unfold ref01_Rows
  rw [if_neg (by simp)]
  refine loop_true a.length (by omega) (fun again => by rw [if_neg (by simp)]) fun i hi again ha => ?_
  rw [if_pos (by simp; omega), ixL_nat hi, ixL_nat hi, wrap_succ (by omega), ha]
  rw [if_neg (by simp)]
theorem find_none {l : List En} (hR : scan_Right l = some true) (hl : l.length < 300000000000) {q : List UInt8} (h : ∀ e ∈ l, e.1 ≠ q) : scan_Find (l, q) = some (-1) := by
  unfold scan_Find
  simp only [hR, Option.bind_some, Bool.not_true, Bool.false_eq_true, if_false]
  unfold scan_find slices_IndexFunc_Entry_scan_find_1
  rw [loop_run (s0 := 0) l.length (fun i s => s = (i : Int)) (some (-1)) (by omega) (fun again s hs => by subst hs; rw [if_neg (by simp)]) (fun i hi again s hs ha => by
    subst hs
    rw [if_pos (by simp; omega), ixL_nat hi, wrap_succ (by omega)]
    unfold scan_find_1
    simp only [Option.bind_some]
    rw [if_neg (by simpa using h _ (List.getElem_mem hi))]
    exact ha _ rfl) rfl]
  rfl
theorem find_some {l : List En} (hR : scan_Right l = some true) (hl : l.length < 300000000000) {k : Nat} (hk : k < l.length) (h : ∀ i, (hi : i < l.length) → i ≠ k → l[i].1 ≠ l[k].1) : scan_Find (l, l[k].1) = some (k : Int) := by
  unfold scan_Find
  simp only [hR, Option.bind_some, Bool.not_true, Bool.false_eq_true, if_false]
  unfold scan_find slices_IndexFunc_Entry_scan_find_1
  rw [loop_run (s0 := 0) (k + 1) (fun i s => s = (i : Int) ∧ i ≤ k) (some (k : Int)) (by omega) (fun again s hs => by omega) (fun i hi again s hs ha => by
    obtain ⟨rfl, hik⟩ := hs
    have hi2 : i < l.length := by omega
    rw [if_pos (by simp; omega), ixL_nat hi2, wrap_succ (by omega)]
    unfold scan_find_1
    simp only [Option.bind_some]
    by_cases e : i = k
    · subst e
      rw [if_pos (by simp)]
    · rw [if_neg (by simpa using h i hi2 e)]
      exact ha _ ⟨rfl, by omega⟩) ⟨rfl, by omega⟩]
  rfl
theorem asc_ne {α : Type} {f : α → List UInt8} {l : List α} (h : Asc f l) {i j : Nat} (hi : i < l.length) (hj : j < l.length) (hne : i ≠ j) : f l[i] ≠ f l[j] := by
  rcases Nat.lt_or_gt_of_ne hne with h1 | h1
  · exact les_ne (List.pairwise_iff_getElem.1 h i j hi hj h1)
  · exact (les_ne (List.pairwise_iff_getElem.1 h j i hj hi h1)).symm
end Go.Proofs.W.Q9
