/- Loops over an index, as plain recursion. -/
import Derived.Test.YtdgihbbekacgcaaGreatDoorK18
namespace Go.Proofs.W
open Go Go.Proofs.V
set_option linter.unusedVariables false
set_option linter.unusedSimpArgs false
theorem fixN_idx {R : Type} (step : (Int → Option R) → Int → Option R) (n : Nat) (P : Nat → Option R) (hlast : ∀ again, step again (n : Int) = P n) (hstep : ∀ i, i < n → ∀ again, again ((i + 1 : Nat) : Int) = P (i + 1) → step again (i : Int) = P i) :
    ∀ (k i m : Nat), i + k = n → k < m → fixN step m (i : Int) = P i
  | 0, i, m, hi, hm => by
    obtain ⟨m, rfl⟩ : ∃ m', m = m' + 1 := ⟨m - 1, by omega⟩
    have : i = n := by omega
    subst this
    rw [fixN]; exact hlast _
  | k + 1, i, m, hi, hm => by
    obtain ⟨m, rfl⟩ : ∃ m', m = m' + 1 := ⟨m - 1, by omega⟩
    rw [fixN]
    exact hstep i (by omega) _ (fixN_idx step n P hlast hstep k (i + 1) m (by omega) (by omega))
/-- A loop over an index. -/
theorem fixS_idx {R : Type} {step : (Int → Option R) → Int → Option R} (n : Nat) (P : Nat → Option R) (hn : n < 1180591620717411303424) (hlast : ∀ again, step again (n : Int) = P n) (hstep : ∀ i, i < n → ∀ again, again ((i + 1 : Nat) : Int) = P (i + 1) → step again (i : Int) = P i) : fixS step fuel 0 = P 0 := by
  rw [fixS_eq]
  exact fixN_idx step n P hlast hstep n 0 fuel (by omega) hn
theorem ixL_nat {α R : Type} {l : List α} {i : Nat} (h : i < l.length) (f : α → Option R) : ixL l (i : Int) f = f l[i] := by
  unfold ixL
  simp [h]
theorem wrap_succ {i : Nat} (h : i < 4000000000000000000) : IntKind.wrap .i64 ((i : Int) + 1) = ((i + 1 : Nat) : Int) := succ64 (by omega)
end Go.Proofs.W
