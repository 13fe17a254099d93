/- Results that do not lie where the caller will write. -/
import Derived.Test.YtdgihbbekacgcaaGreatDoorK38
namespace Go.Proofs.W.C
open Go Go.Proofs Go.Proofs.V Go.Proofs.W Go.RowKit
set_option linter.unusedVariables false
set_option linter.unusedSimpArgs false
set_option maxRecDepth 100000
/-- Cells, but for those between N and M, and behind T. -/
def mk (N M T : Nat) (w : World) : Addr → Option Value := fun ad => if (N ≤ ad.block ∧ ad.block < M) ∨ T ≤ ad.block then none else w.cell? ad
def SlM (N M T : Nat) (r : RT) (w : World) (v : Value) (l : List (Tr r)) : Prop := ∃ nl, (nl = true → l = []) ∧ R1 (mk N M T w) noE (.slice (l.map (encR r)) nl .no) v
theorem SlM.sl {N M T : Nat} {r : RT} {w : World} {v : Value} {l : List (Tr r)} (h : SlM N M T r w v l) : SlR r w v l := by
  obtain ⟨nl, h1, h2⟩ := h
  refine ⟨nl, h1, h2.mono (fun a u hu => ?_) (fun l b h => h)⟩
  unfold mk at hu
  split at hu
  · cases hu
  · exact hu
theorem SlM.below {N M T : Nat} {r : RT} {w w' : World} {v : Value} {l : List (Tr r)} (h : SlM N M T r w v l) (hb : Below w.heap.size w w') : SlM N M T r w' v l := by
  obtain ⟨nl, h1, h2⟩ := h
  refine ⟨nl, h1, h2.mono (fun a u hu => ?_) (fun l b h => h)⟩
  unfold mk at hu ⊢
  split at hu
  · cases hu
  · rename_i hc
    rw [if_neg hc]
    exact (hb.cell (World.block_lt_of_cell? w a hu)).trans hu
theorem SlM.set {N M T : Nat} {r : RT} {w : World} {v : Value} {l : List (Tr r)} (h : SlM N M T r w v l) (a : Addr) (u : Value) (ha : (N ≤ a.block ∧ a.block < M) ∨ T ≤ a.block) : SlM N M T r (w.setCell a u) v l := by
  obtain ⟨nl, h1, h2⟩ := h
  refine ⟨nl, h1, h2.mono (fun ad x hu => ?_) (fun l b h => h)⟩
  unfold mk at hu ⊢
  split at hu
  · cases hu
  · rename_i hc
    rw [if_neg hc]
    have hne : ad.block ≠ a.block := fun e => hc (by rw [e]; exact ha)
    exact (World.cell?_of_block (w := w) (Below.heap_setCell w a u ad.block hne)).trans hu
section
variable {cfg : Cfg} {n : Nat} {a rs : List SV} {F : Tl (dynL a) → Option (Tl (dynL rs))} {x : Tl (dynL a)} {y : Tl (dynL rs)} {w w0 : World} {vs : List Value} {fn : Func} {c : Code}
end
section
variable {cfg : Cfg} {n : Nat} {a : List SV} {x : Tl (dynL a)} {w w0 : World} {vs : List Value} {fn : Func} {c : Code}
end
end Go.Proofs.W.C
namespace Go.Proofs.W.C
open Go Go.Proofs Go.Proofs.V Go.Proofs.W Go.RowKit
set_option linter.unusedVariables false
set_option linter.unusedSimpArgs false
set_option maxRecDepth 100000
/-- A function's plain program at a call, where it tells a truth value. -/
theorem callB {cfg : Cfg} {n : Nat} {a : List SV} {F : Tl (dynL a) → Option (Tl (dynL [.c .bool]))} (hs : FSound cfg ⟨⟨n, a, [.c .bool]⟩, F⟩) {x : Tl (dynL a)} {b : Bool} (hF : F x = some b) {xs : List AV} (ha : ArgR a x xs) : callQ cfg (evK cfg) n xs = some (BO b) := by
  obtain ⟨rv, h1, ws, vs, h2, rfl, h3⟩ := hs x b hF xs ha
  rw [h1]
  have h2' : ws = [.bool false b] := by
    have : some ([WV.bool false b], ([] : List WV)) = some (ws, []) := h2
    cases this; rfl
  subst h2'
  rcases vs with _ | ⟨a1, _ | ⟨_, _⟩⟩ <;> first | exact h3.elim | exact h3.2.elim | skip
  have := h3.1.1
  cases this
  rfl
end Go.Proofs.W.C
