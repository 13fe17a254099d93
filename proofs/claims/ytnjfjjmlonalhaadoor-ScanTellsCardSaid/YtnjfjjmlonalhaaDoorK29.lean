/- Rows of paths that go up. -/
import Derived.Test.YtnjfjjmlonalhaaDoorK21
import Derived.Test.YtnjfjjmlonalhaaDoorK28
import Derived.Sort.KeysCollected
namespace Go.Proofs.W.Q10
open Go Go.Proofs Go.Proofs.V Go.Proofs.W Go.RowKit
set_option linter.unusedVariables false
set_option linter.unusedSimpArgs false
theorem lt_bytes : ∀ x y : List UInt8, x < y ↔ Op.bytesLess x y = true
  | [], [] => by simp [Op.bytesLess]
  | [], y :: ys => by simp [Op.bytesLess]
  | x :: xs, [] => by simp [Op.bytesLess]
  | x :: xs, y :: ys => by
    rw [List.cons_lt_cons_iff, lt_bytes xs ys]
    simp [Op.bytesLess]
theorem less_irrefl (x : List UInt8) : Op.bytesLess x x = false := by
  cases h : Op.bytesLess x x with
  | false => rfl
  | true => exact absurd ((lt_bytes x x).2 h) (List.lt_irrefl x)
theorem less_asymm {x y : List UInt8} (h : Op.bytesLess x y = true) : Op.bytesLess y x = false := by
  cases k : Op.bytesLess y x with
  | false => rfl
  | true => have := Q9.less_trans h k; rw [less_irrefl] at this; cases this
/-- Paths in order, each once. -/
def Up (l : List (List UInt8)) : Prop := l.Pairwise fun x y => Op.bytesLess x y = true
theorem up_eq : ∀ {a b : List (List UInt8)}, Up a → Up b → (∀ q, q ∈ a ↔ q ∈ b) → a = b
  | [], [], _, _, _ => rfl
  | [], y :: b, _, _, h => by have := (h y).2 (by simp); simp at this
  | x :: a, [], _, _, h => by have := (h x).1 (by simp); simp at this
  | x :: a, y :: b, ha, hb, h => by
    have ha' := List.pairwise_cons.1 ha
    have hb' := List.pairwise_cons.1 hb
    have hxy : x = y := by
      rcases List.mem_cons.1 ((h x).1 (by simp)) with e | e
      · exact e
      · rcases List.mem_cons.1 ((h y).2 (by simp)) with e' | e'
        · exact e'.symm
        · have h1 := hb'.1 x e
          have h2 := ha'.1 y e'
          rw [less_asymm h1] at h2; cases h2
    subst hxy
    rw [up_eq ha'.2 hb'.2 fun q => ?_]
    constructor
    · intro hq
      rcases List.mem_cons.1 ((h q).1 (List.mem_cons_of_mem _ hq)) with e | e
      · subst e; have := ha'.1 q hq; rw [less_irrefl] at this; cases this
      · exact e
    · intro hq
      rcases List.mem_cons.1 ((h q).2 (List.mem_cons_of_mem _ hq)) with e | e
      · subst e; have := hb'.1 q hq; rw [less_irrefl] at this; cases this
      · exact e
theorem mem_insK (p q : List UInt8) : ∀ ks, p ∈ insK q ks ↔ p = q ∨ p ∈ ks
  | [] => by simp [insK]
  | k :: ks => by
    unfold insK
    split
    · simp
    · split
      · rename_i h; subst h; simp
      · have ih := mem_insK p q ks
        simp only [List.mem_cons, ih]
        constructor
        · rintro (h | h | h)
          · exact .inr (.inl h)
          · exact .inl h
          · exact .inr (.inr h)
        · rintro (h | h | h)
          · exact .inr (.inl h)
          · exact .inl h
          · exact .inr (.inr h)
theorem up_insK (q : List UInt8) : ∀ {ks}, Up ks → Up (insK q ks)
  | [], _ => by simp [insK, Up]
  | k :: ks, h => by
    have h' := List.pairwise_cons.1 h
    unfold insK
    split
    · rename_i hl
      refine List.pairwise_cons.2 ⟨fun y hy => ?_, h⟩
      rcases List.mem_cons.1 hy with e | e
      · subst e; exact hl
      · exact Q9.less_trans hl (h'.1 y e)
    · split
      · exact h
      · rename_i hl hne
        refine List.pairwise_cons.2 ⟨fun y hy => ?_, up_insK q h'.2⟩
        rcases (mem_insK y q ks).1 hy with e | e
        · subst e; exact Q9.less_total (by simpa using hl) hne
        · exact h'.1 y e
theorem mem_keys (a b : List ((List UInt8) × (Bool × ((List UInt8) × (Int × Int))))) (q : List UInt8) : q ∈ keysL a b ↔ ((∃ e ∈ a, e.1 = q) ∨ ∃ e ∈ b, e.1 = q) := by
  have : ∀ l : List ((List UInt8) × (Bool × ((List UInt8) × (Int × Int)))), q ∈ l.foldr (fun e ks => insK e.1 ks) [] ↔ ∃ e ∈ l, e.1 = q := by
    intro l
    induction l with
    | nil => simp
    | cons e l ih =>
      rw [List.foldr_cons, mem_insK, ih]
      constructor
      · rintro (h | ⟨x, h, k⟩)
        · exact ⟨e, by simp, h.symm⟩
        · exact ⟨x, by simp [h], k⟩
      · rintro ⟨x, h, k⟩
        rcases List.mem_cons.1 h with e' | e'
        · subst e'; exact .inl k.symm
        · exact .inr ⟨x, e', k⟩
  unfold keysL
  rw [this]
  constructor
  · rintro ⟨e, h, k⟩
    rcases List.mem_append.1 h with h | h
    · exact .inl ⟨e, h, k⟩
    · exact .inr ⟨e, h, k⟩
  · rintro (⟨e, h, k⟩ | ⟨e, h, k⟩)
    · exact ⟨e, List.mem_append.2 (.inl h), k⟩
    · exact ⟨e, List.mem_append.2 (.inr h), k⟩
theorem getL_some {l : List ((List UInt8) × (Bool × ((List UInt8) × (Int × Int))))} {q : List UInt8} {e : (List UInt8) × (Bool × ((List UInt8) × (Int × Int)))} (h : getL l q = some e) : e ∈ l ∧ e.1 = q := by
  unfold getL at h
  have h1 := List.mem_of_find?_eq_some h
  have h2 := List.find?_some h
  exact ⟨List.mem_reverse.1 h1, by simpa using h2⟩
theorem getL_none {l : List ((List UInt8) × (Bool × ((List UInt8) × (Int × Int))))} {q : List UInt8} : getL l q = none ↔ ∀ e ∈ l, e.1 ≠ q := by
  unfold getL
  rw [List.find?_eq_none]
  simp
end Go.Proofs.W.Q10
