/- StateTells, walked: small arguments. -/
import Derived.Test.YtdgihbbekacgcaaGreatDoorK45
import Derived.Test.YtdgihbbekacgcaaGreatDoorK46
namespace Go.Proofs.V.T17
open Go Go.Proofs Go.RowKit Go.Lib Go.Proofs.V Go.Proofs.V.L17 Go.Proofs.W Go.Proofs.W.C
set_option linter.unusedVariables false
set_option linter.unusedSimpArgs false
set_option maxRecDepth 100000
theorem Bx.set {W : World} {b : Nat} {A : Array Value} (h : Bx W b A) {a : Addr} (hne : a.block ≠ b) (u : Value) : Bx (W.setCell a u) b A := by
  unfold Bx
  rw [Below.heap_setCell W a u b (fun e => hne e.symm)]
  exact h
theorem Bx.cell {W : World} {b : Nat} {A : Array Value} (h : Bx W b A) {j : Nat} {v : Value} (hv : A[j]? = some v) : W.cell? ⟨b, j, none⟩ = some v := by
  rw [row_at h j, hv]
/-- What stays while the copy is written. -/
structure Kp (w : World) (A B C : Array Value) (lo hi : Nat) (wr : World) : Prop where
  a : Bx wr w.heap.size A
  b : Bx wr (w.heap.size + 1) B
  c : Bx wr hi C
  bw : Below w.heap.size w wr
  lo : w.heap.size + 2 ≤ lo
theorem Kp.set {w wr : World} {A B C : Array Value} {lo hi : Nat} (h : Kp w A B C lo hi wr) {a : Addr} (h1 : lo ≤ a.block) (h2 : a.block < hi) (u : Value) : Kp w A B C lo hi (wr.setCell a u) :=
  ⟨h.a.set (by have := h.lo; omega) u, h.b.set (by have := h.lo; omega) u, h.c.set (by omega) u, h.bw.setCell (by have := h.lo; omega) u, h.lo⟩
end Go.Proofs.V.T17
namespace Go.Proofs.V.T17
open Go Go.Proofs Go.RowKit Go.Lib Go.Proofs.V Go.Proofs.V.L17 Go.Proofs.W Go.Proofs.W.C
set_option linter.unusedVariables false
set_option linter.unusedSimpArgs false
set_option maxRecDepth 100000
end Go.Proofs.V.T17
namespace Go.Proofs.V.T17
open Go Go.Proofs Go.RowKit Go.Lib Go.Proofs.V Go.Proofs.V.L17 Go.Proofs.W Go.Proofs.W.C
set_option linter.unusedVariables false
set_option linter.unusedSimpArgs false
set_option maxRecDepth 100000
end Go.Proofs.V.T17
