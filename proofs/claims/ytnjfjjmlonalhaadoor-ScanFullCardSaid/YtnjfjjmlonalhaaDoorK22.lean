/- ScanFull, of its plain program. -/
import Derived.Test.YtnjfjjmlonalhaaDoorK21
namespace Go.Proofs.W.Q9
open Go Go.Proofs Go.Proofs.V
set_option linter.unusedVariables false
set_option linter.unusedSimpArgs false
set_option maxRecDepth 100000
theorem fitB1 (x : Int) : fitsB 1 ((toSL [x]).length : Int) = true := fits1 (by simp [toSL])
theorem fitB2 (x : Int) : fitsB 1 (([97] ++ (toSL [x])).length : Int) = true := fits1 (by simp [toSL])
theorem fitC {α : Type} (b : α) : fitsB 1 ([b].length : Int) = true := fits1 (by simp)
theorem divG_ok {R : Type} (op : BinOp) (k : IntKind) (x : Int) (f : Int → Option R) : divG op k x 26 f = f (divI op k x 26) := by
  unfold divG
  rw [if_neg (by decide)]
theorem map_range_succ {α : Type} (f : Nat → α) (i : Nat) : (List.range (i + 1)).map f = (List.range i).map f ++ [f i] := by
  rw [List.range_succ, List.map_append]; rfl
theorem upN_succ (n k : Nat) : upN n (k + 1) = upN n k ++ col n k := by
  unfold upN
  rw [List.range_succ, List.flatMap_append]
  simp
theorem upN_len (n k : Nat) : (upN n k).length ≤ k * (n + 25) := by
  induction k with
  | zero => simp [upN]
  | succ k ih =>
    rw [upN_succ, List.length_append, Nat.add_mul]
    have : (col n k).length ≤ n + 25 := by
      unfold col cnt
      rw [List.length_map, List.length_range]
      omega
    omega
theorem same_gone (i : Nat) : ch (enA i, gone (enA i).1) = false := by
  unfold ch
  simp [enA, gone]
theorem full_ok (x : Int × Int) : law09_ScanFull x = some true := by
  obtain ⟨n, m⟩ := x
  unfold law09_ScanFull
  rw [small_ok]
  simp only [Option.bind_some]
  by_cases h1 : n < 0
  · rw [if_pos (by simpa using h1)]
  rw [if_neg (by simpa using h1)]
  by_cases h2 : n > 32
  · rw [if_pos (by simpa using h2)]
  rw [if_neg (by simpa using h2)]
  by_cases h3 : m < 0
  · rw [if_pos (by simpa using h3)]
  rw [if_neg (by simpa using h3)]
  by_cases h4 : m > 16
  · rw [if_pos (by simpa using h4)]
  rw [if_neg (by simpa using h4)]
  obtain ⟨n, rfl⟩ : ∃ n' : Nat, n = n' := ⟨n.toNat, by omega⟩
  obtain ⟨m, rfl⟩ : ∃ m' : Nat, m = m' := ⟨m.toNat, by omega⟩
  have hn : n ≤ 32 := by omega
  have hm : m ≤ 16 := by omega
  clear h1 h2 h3 h4
  refine loop_run n (fun i s => s = ((List.range i).map enA, (i : Int))) _ (by omega) (fun again s hs => ?_) (fun i hi again s hs ha => ?_) (by simp)
  rotate_left
  · subst hs
    rw [if_pos (by simp; omega), divG_ok, if_pos (fitC _), if_pos (fitB1 _), divG_ok, if_pos (fitB2 _), if_pos (fitB1 _), if_pos (fits56 (by simp; omega)), wrap_succ (by omega)]
    refine ha _ ?_
    rw [map_range_succ]
    rfl
  subst hs
  rw [if_neg (by simp)]
  refine loop_run m (fun i s => s = ((List.range n).map enA, ((List.range i).map fiB, (i : Int)))) _ (by omega) (fun again s hs => ?_) (fun i hi again s hs ha => ?_) (by simp)
  rotate_left
  · subst hs
    rw [if_pos (by simp; omega), if_pos (fitC _), if_pos (fitB1 _), if_pos (fits32 (by simp; omega)), wrap_succ (by omega)]
    refine ha _ ?_
    rw [map_range_succ]
    rfl
  subst hs
  rw [if_neg (by simp)]
  refine loop_run 26 (fun k s => s = ((List.range n).map enA, ((List.range m).map fiB, ((upN n k).map enA, (k : Int))))) _ (by omega) (fun again s hs => ?_) (fun k hk again s hs ha => ?_) (by simp [upN])
  rotate_left
  · subst hs
    rw [if_pos (by simp; omega)]
    have hul := upN_len n k
    have hul2 : k * (n + 25) ≤ 26 * 57 := Nat.mul_le_mul (by omega) (by omega)
    have hcn : cnt n k ≤ 3 := by unfold cnt; omega
    refine loop_run (cnt n k) (fun j s => s = ((List.range n).map enA, ((List.range m).map fiB, ((upN n k).map enA ++ (List.range j).map (fun j => enA (k + 26 * j)), ((k + 26 * j : Nat) : Int))))) _ (by omega) (fun again2 s hs => ?_) (fun j hj again2 s hs hg => ?_) (by simp)
    · subst hs
      rw [if_neg (by simp only [decide_eq_true_eq]; unfold cnt; omega), wrap_succ (by omega)]
      refine ha _ ?_
      rw [upN_succ, List.map_append, col, List.map_map]
      rfl
    · subst hs
      have hlt : k + 26 * j < n := by unfold cnt at hj; omega
      have hlt' : k + 26 * j < ((List.range n).map enA).length := by simpa using hlt
      rw [if_pos (by simp; omega), ixL_nat hlt', if_pos (fits56 (by simp; omega))]
      refine hg _ ?_
      have hget : ((List.range n).map enA)[k + 26 * j] = enA (k + 26 * j) := by simp
      have hw : IntKind.wrap .i64 (((k + 26 * j : Nat) : Int) + 26) = ((k + 26 * (j + 1) : Nat) : Int) := by rw [wrapI (by omega) (by omega)]; omega
      simp only [hget, hw, map_range_succ, List.append_assoc]
  subst hs
  rw [if_neg (by simp)]
  simp only
  obtain ⟨hR, hRl, hRi⟩ := up_right hn
  have hT := treeB hm
  have hmg : mergeP ((upN n 26).map enA) ((List.range m).map fiB) = ((upN n 26).map enA).map (fun e => (e, gone e.1)) ++ ((List.range m).map fiB).map (fun f => (gone f.1, has f)) := merge_app fun e he f hf => by
    obtain ⟨i, hi, rfl⟩ := List.mem_map.1 he
    obtain ⟨j, hj, rfl⟩ := List.mem_map.1 hf
    exact all_range (all_range lessAB_ok (hRi i hi)) (by have := List.mem_range.1 hj; omega : j < 16)
  have hml : (mergeP ((upN n 26).map enA) ((List.range m).map fiB)).length = n + m := by
    rw [hmg]; simp [hRl]
  have hw : IntKind.wrap .i64 ((n : Int) + (m : Int)) = ((n + m : Nat) : Int) := by rw [wrapI (by omega) (by omega)]; omega
  have hf : (mergeP ((upN n 26).map enA) ((List.range m).map fiB)).any (fullP 0) = false := by
    rw [List.any_eq_false]
    intro p hp
    rw [hmg] at hp
    rcases List.mem_append.1 hp with hp | hp
    · obtain ⟨e, he, rfl⟩ := List.mem_map.1 hp
      obtain ⟨i, hi, rfl⟩ := List.mem_map.1 he
      unfold fullP
      rw [same_gone]
      simp
    · obtain ⟨f, hf, rfl⟩ := List.mem_map.1 hp
      have h0 : (gone f.1).2.2.2 = TK 0 0 := rfl
      unfold fullP
      simp only [h0, tick_TK 0 (by omega : 0 < 1000), TK_ne, Bool.and_false]
      simp
  rw [hw]
  by_cases hnm : n + m > 32
  · rw [scan_full hR hT 0 (.inr (by omega)), Option.bind_some, if_pos (by simp; omega), if_pos trivial]
    rfl
  · rw [scan_good hR hT 0 hf (by omega), Option.bind_some, if_neg (by simp; omega), if_pos trivial]
    have hr := right_back (out_right hR hT 0 (by omega))
    have hcl : ((mergeP ((upN n 26).map enA) ((List.range m).map fiB)).filter ch).length = m := by
      rw [hmg, List.filter_append, List.length_append]
      have e1 : (((upN n 26).map enA).map (fun e => (e, gone e.1))).filter ch = [] := by
        rw [List.filter_eq_nil_iff]
        intro p hp
        obtain ⟨e, he, rfl⟩ := List.mem_map.1 hp
        obtain ⟨i, hi, rfl⟩ := List.mem_map.1 he
        rw [same_gone]
        simp
      have e2 : (((List.range m).map fiB).map (fun f => (gone f.1, has f))).filter ch = ((List.range m).map fiB).map (fun f => (gone f.1, has f)) := by
        rw [List.filter_eq_self]
        intro p hp
        obtain ⟨f, hf, rfl⟩ := List.mem_map.1 hp
        unfold ch
        simp [gone, has]
      rw [e1, e2]
      simp
    rw [if_pos (by simp), if_pos (by simp only [List.length_map, hml]; simp), if_pos (by simp only [List.length_map, hcl]; simp), hr]
    rfl
end Go.Proofs.W.Q9
