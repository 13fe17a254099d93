/- StateTells, walked: where an argument is not small. -/
import Derived.Test.YtdgihbbekacgcaaGreatDoorK39
import Derived.Laws.Rows
import Derived.WalkKit
import Derived.KernelRfl
namespace Go.Proofs.V.T17
open Go Go.Proofs Go.RowKit Go.Lib Go.Proofs.V Go.Proofs.V.L17 Go.Proofs.W Go.Proofs.W.C
set_option linter.unusedVariables false
set_option linter.unusedSimpArgs false
set_option maxRecDepth 100000
/-- What a block holds. -/
def Bx (W : World) (b : Nat) (A : Array Value) : Prop := W.heap[b]? = some (.cells A 30 (0, 0))
theorem Bx.below {W W' : World} {b : Nat} {A : Array Value} (h : Bx W b A) (hb : Below W.heap.size W W') : Bx W' b A := by
  have hlt : b < W.heap.size := (Array.getElem?_eq_some_iff.1 h).1
  exact (hb.block b hlt).trans h
theorem Bx.alloc {W : World} {b : Nat} {A : Array Value} (h : Bx W b A) (o : Obj) : Bx (W.alloc o) b A := h.below ((Below.refl _ W).alloc (Nat.le_refl _) _)
theorem StR.below {w w' : World} {v : Value} {s : St} (h : StR w v s) (hb : Below w.heap.size w w') : StR w' v s := by
  obtain ⟨v1, v2, v3, v4, v5, v6, v7, rfl, h⟩ := h
  exact ⟨v1, v2, v3, v4, v5, v6, v7, rfl, h.below hb⟩
end Go.Proofs.V.T17
