/- Rows of paths that go up. -/
import Derived.Test.YtboeaelijjamoaaGreatDoorK24
import Derived.Test.YtboeaelijjamoaaGreatDoorK27
import Derived.Sort.KeysCollected
namespace Go.Proofs.W.Q10
open Go Go.Proofs Go.Proofs.V Go.Proofs.W Go.RowKit
set_option linter.unusedVariables false
set_option linter.unusedSimpArgs false
theorem lt_bytes : ∀ x y : List UInt8, x < y ↔ Op.bytesLess x y = true
  | [], [] => by simp [Op.bytesLess]
  | [], y :: ys => by simp [Op.bytesLess]
  | x :: xs, [] => by simp [Op.bytesLess]
  | x :: xs, y :: ys => by
    rw [List.cons_lt_cons_iff, lt_bytes xs ys]
    simp [Op.bytesLess]
theorem less_irrefl (x : List UInt8) : Op.bytesLess x x = false := by
  cases h : Op.bytesLess x x with
  | false => rfl
  | true => exact absurd ((lt_bytes x x).2 h) (List.lt_irrefl x)
theorem less_asymm {x y : List UInt8} (h : Op.bytesLess x y = true) : Op.bytesLess y x = false := by
  cases k : Op.bytesLess y x with
  | false => rfl
  | true => have := Q9.less_trans h k; rw [less_irrefl] at this; cases this
theorem leB_less {x y : List UInt8} (h : decide (x ≤ y) = true) (hne : x ≠ y) : Op.bytesLess x y = true := by
  cases k : Op.bytesLess x y with
  | true => rfl
  | false =>
    have h1 := Q9.less_total k hne
    rw [decide_eq_true_eq] at h
    exact absurd ((lt_bytes y x).2 h1) (List.not_lt.2 h)
/-- Paths in order, each once. -/
def Up (l : List (List UInt8)) : Prop := l.Pairwise fun x y => Op.bytesLess x y = true
theorem up_of {l : List (List UInt8)} (h : l.Pairwise fun x y => decide (x ≤ y) = true) (hn : l.Nodup) : Up l := h.imp₂ (fun x y h1 h2 => leB_less h1 h2) hn
theorem up_eq : ∀ {a b : List (List UInt8)}, Up a → Up b → (∀ q, q ∈ a ↔ q ∈ b) → a = b
  | [], [], _, _, _ => rfl
  | [], y :: b, _, _, h => by have := (h y).2 (by simp); simp at this
  | x :: a, [], _, _, h => by have := (h x).1 (by simp); simp at this
  | x :: a, y :: b, ha, hb, h => by
    have ha' := List.pairwise_cons.1 ha
    have hb' := List.pairwise_cons.1 hb
    have hxy : x = y := by
      rcases List.mem_cons.1 ((h x).1 (by simp)) with e | e
      · exact e
      · rcases List.mem_cons.1 ((h y).2 (by simp)) with e' | e'
        · exact e'.symm
        · have h1 := hb'.1 x e
          have h2 := ha'.1 y e'
          rw [less_asymm h1] at h2; cases h2
    subst hxy
    rw [up_eq ha'.2 hb'.2 fun q => ?_]
    constructor
    · intro hq
      rcases List.mem_cons.1 ((h q).1 (List.mem_cons_of_mem _ hq)) with e | e
      · subst e; have := ha'.1 q hq; rw [less_irrefl] at this; cases this
      · exact e
    · intro hq
      rcases List.mem_cons.1 ((h q).2 (List.mem_cons_of_mem _ hq)) with e | e
      · subst e; have := hb'.1 q hq; rw [less_irrefl] at this; cases this
      · exact e
theorem mem_insK (p q : List UInt8) : ∀ ks, p ∈ insK q ks ↔ p = q ∨ p ∈ ks
  | [] => by simp [insK]
  | k :: ks => by
    unfold insK
    split
    · simp
    · split
      · rename_i h; subst h; simp
      · have ih := mem_insK p q ks
        simp only [List.mem_cons, ih]
        constructor
        · rintro (h | h | h)
          · exact .inr (.inl h)
          · exact .inl h
          · exact .inr (.inr h)
        · rintro (h | h | h)
          · exact .inr (.inl h)
          · exact .inl h
          · exact .inr (.inr h)
theorem up_insK (q : List UInt8) : ∀ {ks}, Up ks → Up (insK q ks)
  | [], _ => by simp [insK, Up]
  | k :: ks, h => by
    have h' := List.pairwise_cons.1 h
    unfold insK
    split
    · rename_i hl
      refine List.pairwise_cons.2 ⟨fun y hy => ?_, h⟩
      rcases List.mem_cons.1 hy with e | e
      · subst e; exact hl
      · exact Q9.less_trans hl (h'.1 y e)
    · split
      · exact h
      · rename_i hl hne
        refine List.pairwise_cons.2 ⟨fun y hy => ?_, up_insK q h'.2⟩
        rcases (mem_insK y q ks).1 hy with e | e
        · subst e; exact Q9.less_total (by simpa using hl) hne
        · exact h'.1 y e
end Go.Proofs.W.Q10
