/- Boxes stay where they are. -/
import Derived.Test.YtdgihbbekacgcaaGreatDoorK14
namespace Go.Proofs.W
open Go Go.Proofs.V
set_option linter.unusedVariables false
set_option linter.unusedSimpArgs false
/-- Slots that stay; boxes that stay where they are. -/
def StayG (ds : List Nat) (F F' : St) : Prop := ∀ i, ds.contains i = false → (NB F i → F'.t i = F.t i) ∧ ∀ g cs, F.t i = .box g cs → NB F' i ∨ ∃ cs', F'.t i = .box g cs'
theorem StayG.refl (ds : List Nat) (F : St) : StayG ds F F := fun _ _ => ⟨fun _ => rfl, fun g cs h => .inr ⟨cs, h⟩⟩
theorem StayG.trans {ds : List Nat} {F G K : St} (h : StayG ds F G) (k : StayG ds G K) : StayG ds F K := fun i hi => by
  have h1 := h i hi
  have k1 := k i hi
  refine ⟨fun hb => ?_, fun g cs hF => ?_⟩
  · have e := h1.1 hb
    rw [k1.1 (by unfold NB; rw [e]; exact hb), e]
  · rcases h1.2 g cs hF with hn | ⟨cs', e⟩
    · exact .inl (by unfold NB; rw [k1.1 hn]; exact hn)
    · exact k1.2 g cs' e
theorem StayG.mono {ds ds' : List Nat} {F G : St} (h : StayG ds F G) (hs : ∀ i, ds'.contains i = false → ds.contains i = false) : StayG ds' F G := fun i hi => h i (hs i hi)
section
variable {cfg : Cfg}
end
end Go.Proofs.W
