/- Results that are new: rows that may be written. -/
import Derived.Test.YtdgihbbekacgcaaGreatDoorK32
import Derived.Laws.CopyOwn
namespace Go.Proofs.W.C
open Go Go.Proofs Go.Proofs.V Go.Proofs.W Go.RowKit
set_option linter.unusedVariables false
set_option linter.unusedSimpArgs false
set_option maxRecDepth 100000
theorem row_at {w : World} {g : Nat} {cur : Array Value} {t : TypeId} {f : Nat × Nat} (hg : w.heap[g]? = some (.cells cur t f)) (j : Nat) : w.cell? ⟨g, j, none⟩ = cur[j]? := by
  rw [cell_of_row w g j cur t f hg]
theorem row_thaw {w : World} {g : Nat} {cur : Array Value} {t : TypeId} (hg : w.heap[g]? = some (.cells cur t (0, 0))) (j : Nat) : w.frozen? ⟨g, j, none⟩ = false := by
  simp [World.frozen?, hg]
/-- A row that came into being behind 'base', and that nothing froze. -/
def Wr (w : World) (base n sz : Nat) (v : Value) : Prop := n = 0 ∨ ∃ b cap vs ty, v = .slice (some ⟨b, 0, none⟩) n cap ∧ base ≤ b ∧ w.heap[b]? = some (.cells vs ty (0, 0)) ∧ n * sz ≤ vs.size
theorem Wr.at {w : World} {base n sz : Nat} {v : Value} (h : Wr w base n sz v) {k : Nat} (hk : k < n) (hsz : 0 < sz) : ∃ b cap u, v = .slice (some ⟨b, 0, none⟩) n cap ∧ base ≤ b ∧ w.cell? ⟨b, k * sz, none⟩ = some u ∧ w.frozen? ⟨b, k * sz, none⟩ = false := by
  rcases h with h | ⟨b, cap, vs, ty, rfl, hb, hh, hs⟩
  · omega
  · have hlt : k * sz < vs.size := by
      have : (k + 1) * sz ≤ n * sz := Nat.mul_le_mul_right _ hk
      rw [Nat.add_mul] at this
      omega
    exact ⟨b, cap, vs[k * sz], rfl, hb, by rw [row_at hh]; exact Array.getElem?_eq_getElem hlt, row_thaw hh _⟩
theorem Wr.set {w : World} {base n sz : Nat} {v : Value} (h : Wr w base n sz v) (a : Addr) (u : Value) : Wr (w.setCell a u) base n sz v := by
  rcases h with h | ⟨b, cap, vs, ty, rfl, hb, hh, hs⟩
  · exact .inl h
  · by_cases e : a.block = b
    · subst e
      refine .inr ⟨a.block, cap, if a.spot.isSome then vs else vs.setIfInBounds a.off u, ty, rfl, hb, ?_, by split <;> simpa using hs⟩
      unfold World.setCell
      simp only [Array.getElem?_modify, hh, if_true]
      rfl
    · exact .inr ⟨b, cap, vs, ty, rfl, hb, by rw [Below.heap_setCell w a u b (fun h => e h.symm)]; exact hh, hs⟩
theorem Wr.below {w w' : World} {base n sz : Nat} {v : Value} (h : Wr w base n sz v) (hb : Below w.heap.size w w') : Wr w' base n sz v := by
  rcases h with h | ⟨b, cap, vs, ty, rfl, hb0, hh, hs⟩
  · exact .inl h
  · have hlt : b < w.heap.size := (Array.getElem?_eq_some_iff.1 hh).1
    exact .inr ⟨b, cap, vs, ty, rfl, hb0, by rw [hb.block b hlt]; exact hh, hs⟩
section
variable {cfg : Cfg} {n : Nat} {a rs : List SV} {F : Tl (dynL a) → Option (Tl (dynL rs))} {x : Tl (dynL a)} {y : Tl (dynL rs)} {w : World} {vs : List Value} {fn : Func} {c : Code}
end
section
variable {cfg : Cfg} {n : Nat} {a : List SV} {x : Tl (dynL a)} {w : World} {vs : List Value} {fn : Func} {c : Code}
end
end Go.Proofs.W.C
