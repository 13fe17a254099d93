/- Strings, split at strokes. -/
import Derived.Test.YtdgihbbekacgcaaGreatDoorK11
namespace Go.Proofs.V.E
open Go Go.Proofs
set_option linter.unusedVariables false
set_option linter.unusedSimpArgs false
abbrev BS := List UInt8
def rowS (s : BS) : List AV := [ST s]
theorem beqS (a b : BS) : ((⟨⟨a⟩⟩ : ByteArray) == ⟨⟨b⟩⟩) = decide (a = b) := by
  show ((⟨a⟩ : Array UInt8) == ⟨b⟩) = _
  by_cases h : a = b
  · subst h; simp
  · rw [decide_eq_false h]
    simp [h]
theorem neS {a b : BS} : (!((⟨⟨a⟩⟩ : ByteArray).toList == (⟨⟨b⟩⟩ : ByteArray).toList)) = !(decide (a = b)) := by
  rw [← beqS, beq_toListBytes]
theorem indexByte_lt : ∀ (l : BS) (c : UInt8), Lib.indexByte l c = -1 ∨ (0 ≤ Lib.indexByte l c ∧ Lib.indexByte l c < l.length)
  | [], c => .inl rfl
  | b :: l, c => by
    have ih := indexByte_lt l c
    unfold Lib.indexByte
    split
    · right; simp
    · split
      · left; rfl
      · rename_i h1 h2
        right
        rcases ih with ih | ih
        · simp [ih] at h2
        · simp only [List.length_cons]; omega
def lens (ws : List BS) : Nat := (ws.map fun w => w.length + 1).sum
/-- A string, split at strokes. -/
def spl : BS → List BS
  | [] => [[]]
  | x :: s => if x = 47 then [] :: spl s else match spl s with
    | w :: ws => (x :: w) :: ws
    | [] => [[x]]
theorem spl_ne : ∀ s : BS, spl s ≠ []
  | [] => by simp [spl]
  | x :: s => by
    unfold spl
    split
    · simp
    · split <;> simp
theorem spl_cons {x : UInt8} (s : BS) {w : BS} {ws : List BS} (hx : x ≠ 47) (h : spl s = w :: ws) : spl (x :: s) = (x :: w) :: ws := by
  rw [spl, if_neg hx, h]
theorem spl_idx : ∀ s : BS, (Lib.indexByte s 47 < 0 → spl s = [s] ∧ s.count 47 = 0) ∧ (0 ≤ Lib.indexByte s 47 → spl s = s.take (Lib.indexByte s 47).toNat :: spl (s.drop ((Lib.indexByte s 47).toNat + 1)) ∧ s.count 47 = (s.drop ((Lib.indexByte s 47).toNat + 1)).count 47 + 1)
  | [] => ⟨fun _ => ⟨rfl, rfl⟩, fun h => by simp [Lib.indexByte] at h⟩
  | x :: s => by
    obtain ⟨ih1, ih2⟩ := spl_idx s
    by_cases hx : x = 47
    · subst hx
      have e : Lib.indexByte (47 :: s) 47 = 0 := by simp [Lib.indexByte]
      rw [e]
      refine ⟨fun h => by omega, fun _ => ⟨?_, ?_⟩⟩
      · simp [spl]
      · simp
    · have hc : (x :: s).count 47 = s.count 47 := List.count_cons_of_ne hx
      by_cases hm : Lib.indexByte s 47 < 0
      · obtain ⟨e1, e2⟩ := ih1 hm
        have e : Lib.indexByte (x :: s) 47 = -1 := by
          have hl := indexByte_lt s 47
          unfold Lib.indexByte
          rw [if_neg (by simpa using hx), if_pos (by simp only [beq_iff_eq]; omega)]
        rw [e]
        exact ⟨fun _ => ⟨spl_cons s hx e1, hc.trans e2⟩, fun h => by omega⟩
      · obtain ⟨e1, e2⟩ := ih2 (by omega)
        have e : Lib.indexByte (x :: s) 47 = Lib.indexByte s 47 + 1 := by
          rw [show Lib.indexByte (x :: s) 47 = (if (x == 47) = true then 0 else if (Lib.indexByte s 47 == -1) = true then -1 else Lib.indexByte s 47 + 1) from rfl]
          rw [if_neg (by simpa using hx), if_neg (by simp only [beq_iff_eq]; omega)]
        rw [e]
        refine ⟨fun h => by omega, fun _ => ?_⟩
        have e3 : (Lib.indexByte s 47 + 1).toNat = (Lib.indexByte s 47).toNat + 1 := by omega
        rw [e3]
        refine ⟨?_, ?_⟩
        · rw [spl_cons s hx e1]; rfl
        · rw [hc, e2]; rfl
theorem lens_spl : ∀ s : BS, lens (spl s) = s.length + 1
  | [] => rfl
  | x :: s => by
    have ih := lens_spl s
    by_cases hx : x = 47
    · rw [spl, if_pos hx]
      simp only [lens, List.map_cons, List.sum_cons, List.length_nil, List.length_cons] at ih ⊢
      omega
    · cases hs : spl s with
      | nil => exact absurd hs (spl_ne s)
      | cons w ws =>
        rw [spl_cons s hx hs]
        rw [hs] at ih
        simp only [lens, List.map_cons, List.sum_cons, List.length_cons] at ih ⊢
        omega
def cells82 (N : Nat) (ws : List BS) : List AV := ws.map (fun w => ST w) ++ List.replicate (N - ws.length) (ST [])
theorem cells_len (N : Nat) (ws : List BS) (h : ws.length ≤ N) : (cells82 N ws).length = N := by
  simp [cells82]; omega
theorem cells_set (N : Nat) (ws : List BS) (w : BS) (h : ws.length < N) : splice (cells82 N ws) ws.length [ST w] = cells82 N (ws ++ [w]) := by
  have h1 : (cells82 N ws).take ws.length = ws.map (fun w => ST w) := by
    unfold cells82
    rw [List.take_append_of_le_length (by simp)]
    exact List.take_of_length_le (by simp)
  have h2 : (cells82 N ws).drop (ws.length + 1) = List.replicate (N - (ws.length + 1)) (ST []) := by
    unfold cells82
    rw [List.drop_append, List.drop_eq_nil_of_le (by simp)]
    simp
    omega
  simp only [splice, List.length_cons, List.length_nil, Nat.zero_add, h1, h2]
  simp [cells82]
end Go.Proofs.V.E
