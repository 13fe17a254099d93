/- scan.Copy, walked: a new row. -/
import Derived.Test.YtckammfgogiplaaGreatDoorK25
import Derived.Lib.SliceRun
namespace Go.Proofs.V.R10
open Go Go.Proofs Go.RowKit Go.Maps
set_option linter.unusedVariables false
set_option linter.unusedSimpArgs false
theorem rows_cells {w : World} {b off : Nat} {l : List En} (h : Rows5 w b off l) : ∀ j u, (l.flatMap cellsE)[j]? = some u → w.cell? ⟨b, off + j, none⟩ = some u := by
  intro j u hj
  have hlt : j < (l.flatMap cellsE).length := (List.getElem?_eq_some_iff.1 hj).1
  rw [cellsE_len] at hlt
  have hi : j / 5 < l.length := by omega
  have he : l[j / 5]? = some l[j / 5] := List.getElem?_eq_getElem hi
  have h1 := cellsE_at he (j % 5) (by omega)
  have e1 : j / 5 * 5 + j % 5 = j := by omega
  rw [e1, hj] at h1
  have h5 : j % 5 = 0 ∨ j % 5 = 1 ∨ j % 5 = 2 ∨ j % 5 = 3 ∨ j % 5 = 4 := by omega
  have e2 : off + j = off + j / 5 * 5 + j % 5 := by omega
  rw [e2]
  rcases h5 with k | k | k | k | k <;> rw [k] at h1 ⊢ <;> simp [cellsE] at h1 <;> subst h1
  · exact h.c0 _ _ he
  · exact h.c1 _ _ he
  · exact h.c2 _ _ he
  · exact h.c3 _ _ he
  · exact h.c4 _ _ he
theorem addr_off (g off k : Nat) : (⟨g, off, none⟩ : Addr).add k = ⟨g, off + k, none⟩ := by
  unfold Addr.add
  split
  · rename_i h; subst h; rfl
  · rfl
theorem oneCells (l : List En) : ∀ u ∈ l.flatMap cellsE, u.oneCell' = true := by
  intro u hu
  obtain ⟨e, _, hu⟩ := List.mem_flatMap.1 hu
  simp [cellsE] at hu
  rcases hu with rfl | rfl | rfl | rfl | rfl <;> rfl
set_option maxRecDepth 100000 in
theorem clone_calls {w : World} {v : Value} {l : List En} (hs : Sl w v l) (hn : l.length ≤ 1000) :
    Calls Tryz.prog 86 #[v] w fun e w' => ∃ v', e = .returned v' ∧ w'.ownsRow w.heap.size 34 5 v' l.length (l.flatMap cellsE) ∧ Below w.heap.size w w' ∧ (v' = .slice none 0 0 ↔ v = .slice none 0 0) := by
  obtain ⟨i5, hi5, hy0, hy1, hy2⟩ := info_parts info34
  have q22 : ∀ (w : World) (a : Option Addr) (n c n' c' : Nat), (binOp .eql 22 (.slice a n c) (.slice none n' c')).run Tryz.prog w = .ok (.bool a.isNone) w := fun w a n c n' c' => Lib.run_eql_slice_nil w _ _ a n c n' c' Tryz.underlying22
  rcases hs with ⟨rfl, rfl⟩ | ⟨b, off, cap, rfl, hc, hR⟩
  · go_enter Tryz.func86, Tryz.ntmps86
    go_wp2
    go_ret
    exact ⟨_, rfl, World.ownsRow_nil _ _ _ _, Below.refl _ _, by simp⟩
  · go_enter Tryz.func86, Tryz.ntmps86
    go_wp2_with (first
      | (at_builtin; refine wpList_append_own _ rfl _ _ 22 rfl w.heap.size 34 i5 (valE zeroE) 5 56 Tryz.underlying22 hi5 hy0 hy1 hy2 rfl (by decide) _ _ _ rfl (World.ownsRow_made w #[] 0 (Nat.le_refl _) (Nat.zero_le _) rfl) ⟨b, off, none⟩ l.length cap (l.flatMap cellsE) rfl (cellsE_len l) (fun j u hj => by rw [addr_off]; exact Lib.cell?_alloc_some _ (rows_cells hR j u hj)) (oneCells l) (by unfold maxLen; omega) (by omega) (by simp) (fun v' w1 hown hgrow hnil => ?_)))
    go_ret
    refine ⟨v', rfl, by simpa using hown, ((Below.refl _ w).alloc (Nat.le_refl _) _).grown hgrow (by simp) (fun k hk => by have h1 : some w.heap.size = some k := hk; cases h1; exact Nat.le_refl _), ?_⟩
    constructor
    · intro e
      exact absurd (hnil.1 e).1 (by intro h; cases h)
    · intro e; cases e
set_option maxRecDepth 100000 in
theorem copy_calls {w : World} {v : Value} {l : List En} (hs : Sl w v l) (hn : l.length ≤ 1000) :
    Calls Tryz.prog 51 #[v] w fun e w' => ∃ v', e = .returned v' ∧ w'.ownsRow w.heap.size 34 5 v' l.length (l.flatMap cellsE) ∧ Below w.heap.size w w' ∧ (v' = .slice none 0 0 ↔ v = .slice none 0 0) := by
  go_enter Tryz.func51, Tryz.ntmps51
  go_wp2_with (first
    | (go_at_call 86; refine (clone_calls hs hn).mono ?_; rintro e w1 ⟨v', rfl, hown, hb, hnil⟩))
  go_ret
  exact ⟨v', rfl, hown, hb, hnil⟩
end Go.Proofs.V.R10
