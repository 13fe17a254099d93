/- Arguments of the laws of chapter 11, read. -/
import Derived.Test.YtboeaelijjamoaaGreatDoorK21
import Derived.Test.YtboeaelijjamoaaGreatDoorK48
import Derived.Test.YtboeaelijjamoaaGreatDoorK17
import Derived.OpenShut
import Derived.ChangeMaps5
namespace Go.Proofs.V.R11
open Go Go.Proofs Go.Proofs.V Go.Proofs.W Go.Proofs.W.C Go.RowKit
set_option linter.unusedVariables false
set_option linter.unusedSimpArgs false
set_option maxRecDepth 100000
section
variable {H : Type} {enc : TypeId × Value → H} {W : World}
theorem c3 : Tryz.prog.cellsOf 3 = 1 := by kernel_rfl
theorem c4 : Tryz.prog.cellsOf 4 = 1 := by kernel_rfl
theorem c9 : Tryz.prog.cellsOf 9 = 1 := by kernel_rfl
theorem c54 : Tryz.prog.cellsOf 38 = 2 := by kernel_rfl
theorem c33 : Tryz.prog.cellsOf 41 = 3 := by kernel_rfl
theorem rdFi : ∀ (n : Nat) (cs : List Value) (x : DataW H × List MemPlace), Rd Tryz.prog enc W n 38 cs x → ∃ a : Tr reF, encR reF a = cs.map AV.at ∧ ∀ v ∈ cs, Value.one v = true := by
  intro n cs x h
  obtain ⟨hl, hf⟩ := elF Tryz.underlying38 h
  rw [c54] at hl
  obtain ⟨a, l0_, rfl, h0_⟩ := cons_of hl
  obtain ⟨b, l1_, rfl, h1_⟩ := cons_of h0_
  obtain rfl := nil_of h1_
  obtain ⟨_, _, k0⟩ := fld hf 0 rfl (t := 9) rfl rfl c9 rfl
  obtain ⟨_, _, k1⟩ := fld hf 1 rfl (t := 9) rfl rfl c9 rfl
  obtain ⟨p, hp⟩ := elS Tryz.underlying9 k0
  obtain ⟨q, hq⟩ := elS Tryz.underlying9 k1
  simp at hp hq
  subst hp; subst hq
  exact ⟨((p, q) : List UInt8 × List UInt8), rfl, by simp [Value.one]⟩
theorem rdAc : ∀ (n : Nat) (cs : List Value) (x : DataW H × List MemPlace), Rd Tryz.prog enc W n 41 cs x → ∃ a : Tr reA, encR reA a = cs.map AV.at ∧ ∀ v ∈ cs, Value.one v = true := by
  intro n cs x h
  obtain ⟨hl, hf⟩ := elF Tryz.underlying41 h
  rw [c33] at hl
  obtain ⟨a, l0_, rfl, h0_⟩ := cons_of hl
  obtain ⟨b, l1_, rfl, h1_⟩ := cons_of h0_
  obtain ⟨c, l2_, rfl, h2_⟩ := cons_of h1_
  obtain rfl := nil_of h2_
  obtain ⟨_, _, k0⟩ := fld hf 0 rfl (t := 9) rfl rfl c9 rfl
  obtain ⟨_, _, k1⟩ := fld hf 1 rfl (t := 4) rfl rfl c4 rfl
  obtain ⟨_, _, k2⟩ := fld hf 2 rfl (t := 9) rfl rfl c9 rfl
  obtain ⟨p, hp⟩ := elS Tryz.underlying9 k0
  obtain ⟨q, hq⟩ := elB Tryz.underlying4 k1
  obtain ⟨r, hr⟩ := elS Tryz.underlying9 k2
  simp at hp hq hr
  subst hp; subst hq; subst hr
  exact ⟨((p, (q, r)) : Ac), rfl, by simp [Value.one]⟩
instance : Inhabited (Tr reF) := ⟨(([], []) : List UInt8 × List UInt8)⟩
instance : Inhabited (Tr reA) := ⟨(([], (false, [])) : Ac)⟩
theorem open22 {base : Nat} {v : Value} {d : DataW H} {p : List MemPlace} (hval : Value.okWide Tryz.prog W .any base 22 v) (h : DataW.Trod enc Tryz.prog W 0 (fun _ => true) true 22 v d p) : ∃ l : List Fi, l.length ≤ maxLen ∧ CR (.sl reF) l W v := open_rows Tryz.underlying22 c54 (by decide) rdFi hval h
theorem open23 {base : Nat} {v : Value} {d : DataW H} {p : List MemPlace} (hval : Value.okWide Tryz.prog W .any base 23 v) (h : DataW.Trod enc Tryz.prog W 0 (fun _ => true) true 23 v d p) : ∃ l : List Ac, l.length ≤ maxLen ∧ CR (.sl reA) l W v := open_rows Tryz.underlying23 c33 (by decide) rdAc hval h
end
theorem le_max {n : Nat} (h : n ≤ maxLen) : n ≤ 9223372036854775807 := by
  unfold maxLen at h
  omega
theorem low64 {a : Int} (h : (Lit.int .i64 a).wf = true) : -9223372036854775808 ≤ a := by
  have h : (decide (IntKind.i64.min ≤ a) && decide (a ≤ IntKind.i64.max)) = true := h
  simp only [Bool.and_eq_true, decide_eq_true_eq] at h
  exact h.1
end Go.Proofs.V.R11
