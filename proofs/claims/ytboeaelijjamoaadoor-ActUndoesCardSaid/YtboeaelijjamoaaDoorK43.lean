/- Arguments of the laws of chapter 11, read. -/
import Derived.Test.YtboeaelijjamoaaDoorK21
import Derived.Test.YtboeaelijjamoaaDoorK42
import Derived.Test.YtboeaelijjamoaaDoorK17
import Derived.OpenShut
import Derived.ChangeMaps5
namespace Go.Proofs.V.R11
open Go Go.Proofs Go.Proofs.V Go.Proofs.W Go.Proofs.W.C Go.RowKit
set_option linter.unusedVariables false
set_option linter.unusedSimpArgs false
set_option maxRecDepth 100000
section
variable {H : Type} {enc : TypeId × Value → H} {W : World}
theorem c3 : Tryd.prog.cellsOf 3 = 1 := by kernel_rfl
theorem c4 : Tryd.prog.cellsOf 4 = 1 := by kernel_rfl
theorem c9 : Tryd.prog.cellsOf 9 = 1 := by kernel_rfl
theorem c54 : Tryd.prog.cellsOf 54 = 2 := by kernel_rfl
theorem c33 : Tryd.prog.cellsOf 33 = 3 := by kernel_rfl
abbrev reE : RT := .cons .str (.cons .bool (.cons .str (.cons (.int .i64) (.one (.int .i64)))))
abbrev En := List UInt8 × (Bool × (List UInt8 × (Int × Int)))
theorem rdFi : ∀ (n : Nat) (cs : List Value) (x : DataW H × List MemPlace), Rd Tryd.prog enc W n 54 cs x → ∃ a : Tr reF, encR reF a = cs.map AV.at ∧ ∀ v ∈ cs, Value.one v = true := by
  intro n cs x h
  obtain ⟨hl, hf⟩ := elF Tryd.underlying54 h
  rw [c54] at hl
  obtain ⟨a, l0_, rfl, h0_⟩ := cons_of hl
  obtain ⟨b, l1_, rfl, h1_⟩ := cons_of h0_
  obtain rfl := nil_of h1_
  obtain ⟨_, _, k0⟩ := fld hf 0 rfl (t := 9) rfl rfl c9 rfl
  obtain ⟨_, _, k1⟩ := fld hf 1 rfl (t := 9) rfl rfl c9 rfl
  obtain ⟨p, hp⟩ := elS Tryd.underlying9 k0
  obtain ⟨q, hq⟩ := elS Tryd.underlying9 k1
  simp at hp hq
  subst hp; subst hq
  exact ⟨((p, q) : List UInt8 × List UInt8), rfl, by simp [Value.one]⟩
theorem rdAc : ∀ (n : Nat) (cs : List Value) (x : DataW H × List MemPlace), Rd Tryd.prog enc W n 33 cs x → ∃ a : Tr reA, encR reA a = cs.map AV.at ∧ ∀ v ∈ cs, Value.one v = true := by
  intro n cs x h
  obtain ⟨hl, hf⟩ := elF Tryd.underlying33 h
  rw [c33] at hl
  obtain ⟨a, l0_, rfl, h0_⟩ := cons_of hl
  obtain ⟨b, l1_, rfl, h1_⟩ := cons_of h0_
  obtain ⟨c, l2_, rfl, h2_⟩ := cons_of h1_
  obtain rfl := nil_of h2_
  obtain ⟨_, _, k0⟩ := fld hf 0 rfl (t := 9) rfl rfl c9 rfl
  obtain ⟨_, _, k1⟩ := fld hf 1 rfl (t := 4) rfl rfl c4 rfl
  obtain ⟨_, _, k2⟩ := fld hf 2 rfl (t := 9) rfl rfl c9 rfl
  obtain ⟨p, hp⟩ := elS Tryd.underlying9 k0
  obtain ⟨q, hq⟩ := elB Tryd.underlying4 k1
  obtain ⟨r, hr⟩ := elS Tryd.underlying9 k2
  simp at hp hq hr
  subst hp; subst hq; subst hr
  exact ⟨((p, (q, r)) : Ac), rfl, by simp [Value.one]⟩
instance : Inhabited (Tr reF) := ⟨(([], []) : List UInt8 × List UInt8)⟩
instance : Inhabited (Tr reA) := ⟨(([], (false, [])) : Ac)⟩
instance : Inhabited (Tr reE) := ⟨(([], (false, ([], (0, 0)))) : En)⟩
theorem open22 {base : Nat} {v : Value} {d : DataW H} {p : List MemPlace} (hval : Value.okWide Tryd.prog W .any base 22 v) (h : DataW.Trod enc Tryd.prog W 0 (fun _ => true) true 22 v d p) : ∃ l : List Fi, l.length ≤ maxLen ∧ CR (.sl reF) l W v := open_rows Tryd.underlying22 c54 (by decide) rdFi hval h
theorem open23 {base : Nat} {v : Value} {d : DataW H} {p : List MemPlace} (hval : Value.okWide Tryd.prog W .any base 23 v) (h : DataW.Trod enc Tryd.prog W 0 (fun _ => true) true 23 v d p) : ∃ l : List Ac, l.length ≤ maxLen ∧ CR (.sl reA) l W v := open_rows Tryd.underlying23 c33 (by decide) rdAc hval h
end
theorem le_max {n : Nat} (h : n ≤ maxLen) : n ≤ 9223372036854775807 := by
  unfold maxLen at h
  omega
end Go.Proofs.V.R11
