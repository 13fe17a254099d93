/- What ScanTells asks beside Scan: plain. -/
import Derived.Test.YtnjfjjmlonalhaaDoorK34
import Derived.Test.YtnjfjjmlonalhaaDoorK35
namespace Go.Proofs.W.Q10
open Go Go.Proofs.V Go.Proofs.W.Q9
set_option linter.unusedVariables false
set_option linter.unusedSimpArgs false
theorem same_ref (a b : List En) : scan_Same (a, b) = ref09_Same (a, b) := by
  have e : ref09_Same (a, b) = slices_Equal_Entry (a, b) := rfl
  unfold scan_Same
  rw [e]
  cases slices_Equal_Entry (a, b) <;> rfl
theorem same_tot (a b : List En) (hl : a.length < 1000000000) : ∃ r, ref09_Same (a, b) = some r := by
  unfold ref09_Same
  dsimp only
  by_cases h : a.length = b.length
  · rw [if_neg (by simp; omega)]
    refine ends_loop a.length (by omega) (fun again => ?_) (fun i hi again ha => ?_)
    · rw [if_neg (by simp)]
      exact ⟨_, rfl⟩
    · rw [if_pos (by simp; omega), ixL_nat hi, ixL_nat (by omega), wrap_succ (by omega)]
      split
      · exact ⟨_, rfl⟩
      · exact ha
  · rw [if_pos (by simp; omega)]
    exact ⟨_, rfl⟩
theorem refsameR (a : List En) (hl : a.length < 1000000000) : ref09_Same (a, a) = some true := by
  unfold ref09_Same
  dsimp only
  rw [if_neg (by simp)]
  refine loop_true a.length (by omega) (fun again => by rw [if_neg (by simp)]) fun i hi again ha => ?_
  rw [if_pos (by simp; omega), ixL_nat hi, ixL_nat hi, wrap_succ (by omega), if_neg (by simp), ha]
theorem refsameT (a : List Fi) (hl : a.length < 1000000000) : ref04_Same (a, a) = some true := by
  unfold ref04_Same
  dsimp only
  rw [if_neg (by simp)]
  refine loop_true a.length (by omega) (fun again => by rw [if_neg (by simp)]) fun i hi again ha => ?_
  rw [if_pos (by simp; omega), ixL_nat hi, ixL_nat hi, wrap_succ (by omega), if_neg (by simp), ha]
theorem find_ref {l : List En} (ml : Mid l) (p : List UInt8) : ∃ r, scan_Find (l, p) = some r ∧ ref09_Find (l, p) = some r := by
  obtain ⟨b, hb⟩ := ml.ends
  have hn := ml.n
  cases b with
  | false =>
    refine ⟨-1, ?_, ?_⟩
    · unfold scan_Find
      dsimp only
      rw [hb]; rfl
    · unfold ref09_Find
      dsimp only
      rw [refarch_ok ml.p (by omega), hb]; rfl
  | true =>
    refine ⟨_, find_idx hb (by omega) p, ?_⟩
    unfold ref09_Find
    dsimp only
    rw [refarch_ok ml.p (by omega), hb, Option.bind_some, if_neg (by simp), reffind_ok (by omega), Option.bind_some]
theorem tree_ref {l : List En} (ml : Mid l) : ∃ u, scan_Tree l = some u ∧ ref09_Tree l = some u ∧ u.length ≤ 64 := by
  obtain ⟨b, hb⟩ := ml.ends
  have hn := ml.n
  cases b with
  | false =>
    refine ⟨[], ?_, ?_, by simp⟩
    · unfold scan_Tree
      rw [hb]; rfl
    · unfold ref09_Tree
      rw [refarch_ok ml.p (by omega), hb]; rfl
  | true =>
    refine ⟨_, tree_of (ml.right hb), ?_, by have := filesP_len l; omega⟩
    unfold ref09_Tree
    rw [refarch_ok ml.p (by omega), hb, Option.bind_some, if_neg (by simp), reffiles_ok _ (by omega), Option.bind_some]
theorem copy_ok {l : List En} (hl : l.length ≤ 1000) : scan_Copy l = some l := by
  unfold scan_Copy slices_Clone_Entry
  rw [if_pos (by omega)]; rfl
theorem scan_tot {l : List En} {t : List Fi} (n : Int) (h1 : (decide (l.length ≤ 60) && l.all okEn) = true) (h2 : (decide (t.length ≤ 40) && t.all okFi) = true) : ∃ y, scan_Scan (l, (t, n)) = some y ∧ y.1.length ≤ 1000 ∧ y.2.1.length ≤ 1000 := by
  obtain ⟨⟨b1, k1⟩, ⟨b2, k2⟩⟩ := few_ends h1 h2
  have hl : l.length ≤ 60 := by simp only [Bool.and_eq_true, decide_eq_true_eq] at h1; exact h1.1
  cases scan_all n (by omega) k1 k2 with
  | no e he h => exact ⟨_, h, by simp, by simp⟩
  | good hl ht hf h3 h =>
    refine ⟨_, h, by simp; omega, ?_⟩
    have := List.length_filter_le ch (mergeP l t)
    simp
    omega
end Go.Proofs.W.Q10
