/- Boxes stay where they are. -/
import Derived.Test.YtnjfjjmlonalhaaDoorK14
namespace Go.Proofs.W
open Go Go.Proofs.V
set_option linter.unusedVariables false
set_option linter.unusedSimpArgs false
/-- Slots that stay; boxes that stay where they are. -/
def StayG (ds : List Nat) (F F' : St) : Prop := ∀ i, ds.contains i = false → (NB F i → F'.t i = F.t i) ∧ ∀ g cs, F.t i = .box g cs → NB F' i ∨ ∃ cs', F'.t i = .box g cs'
theorem StayG.refl (ds : List Nat) (F : St) : StayG ds F F := fun _ _ => ⟨fun _ => rfl, fun g cs h => .inr ⟨cs, h⟩⟩
theorem StayG.trans {ds : List Nat} {F G K : St} (h : StayG ds F G) (k : StayG ds G K) : StayG ds F K := fun i hi => by
  have h1 := h i hi
  have k1 := k i hi
  refine ⟨fun hb => ?_, fun g cs hF => ?_⟩
  · have e := h1.1 hb
    rw [k1.1 (by unfold NB; rw [e]; exact hb), e]
  · rcases h1.2 g cs hF with hn | ⟨cs', e⟩
    · exact .inl (by unfold NB; rw [k1.1 hn]; exact hn)
    · exact k1.2 g cs' e
theorem StayG.mono {ds ds' : List Nat} {F G : St} (h : StayG ds F G) (hs : ∀ i, ds'.contains i = false → ds.contains i = false) : StayG ds' F G := fun i hi => h i (hs i hi)
theorem StayG.of_eq {ds : List Nat} {F F' : St} (h : ∀ i, ds.contains i = false → F'.t i = F.t i) : StayG ds F F' := fun i hi => ⟨fun _ => h i hi, fun g cs hF => .inr ⟨cs, (h i hi).trans hF⟩⟩
theorem put_stayG {F F' : St} {d : Option Nat} {v : AV} (h : F.put d v = some F') : StayG d.toList F F' := by
  refine .of_eq fun i hi => ?_
  cases d with
  | none => cases h; rfl
  | some d =>
    simp only [St.put] at h
    split at h
    · cases h
      have : i ≠ d := by rintro rfl; simp at hi
      simp only [upd_ne _ _ _ _ this]
    · cases h
theorem write_stayG {F F' : St} {p : AV} {cs : List AV} (h : F.write p cs = some F') : StayG [] F F' := by
  unfold St.write at h
  split at h
  · rename_i g t off
    split at h
    · rename_i g' row hF
      split at h
      · rename_i hc
        obtain ⟨rfl, _⟩ := hc
        cases h
        intro i hi
        by_cases e : i = t
        · subst e
          refine ⟨fun hb => (hb _ _ hF).elim, fun g2 cs2 h2 => .inr ?_⟩
          rw [hF] at h2
          cases h2
          exact ⟨_, by simp only [upd_apply, if_true]; rfl⟩
        · exact ⟨fun _ => by simp only [upd_ne _ _ _ _ e], fun g2 cs2 h2 => .inr ⟨cs2, by simp only [upd_ne _ _ _ _ e]; exact h2⟩⟩
      · cases h
    · cases h
  · split at h
    · split at h
      · cases h; exact .of_eq fun _ _ => rfl
      · cases h
    · cases h
  · cases h
theorem freeze_stayG : ∀ (l : List Operand) {F F' : St} {xs : List AV}, freezeL F l = some (xs, F') → StayG [] F F'
  | [], F, F', xs, h => by cases h; exact .refl _ _
  | o :: l, F, F', xs, h => by
    have other : ∀ {y : AV}, (freezeL F l).map (fun r => (y :: r.1, r.2)) = some (xs, F') → StayG [] F F' := by
      intro y h
      simp only [Option.map_eq_some_iff] at h
      obtain ⟨⟨ys, F2⟩, h1, h2⟩ := h
      cases h2
      exact freeze_stayG l h1
    cases o with
    | tmp t =>
      simp only [freezeL] at h
      split at h
      · rename_i g cs hF
        simp only [Option.map_eq_some_iff] at h
        obtain ⟨⟨ys, F2⟩, h1, h2⟩ := h
        cases h2
        have h3 := freeze_stayG l h1
        refine StayG.trans (G := { F with t := upd F.t t _ }) ?_ h3
        intro i hi
        by_cases e : i = t
        · subst e
          refine ⟨fun hb => (hb _ _ hF).elim, fun g2 cs2 h2 => .inl ?_⟩
          intro g3 cs3 h3
          simp only [upd_apply, if_true] at h3
          cases h3
        · exact ⟨fun _ => by simp only [upd_ne _ _ _ _ e], fun g2 cs2 h2 => .inr ⟨cs2, by simp only [upd_ne _ _ _ _ e]; exact h2⟩⟩
      · split at h
        · exact other h
        · cases h
    | const v =>
      simp only [freezeL] at h
      split at h
      · exact other h
      · cases h
    | global v =>
      simp only [freezeL] at h
      split at h
      · exact other h
      · cases h
    | func v =>
      simp only [freezeL] at h
      split at h
      · exact other h
      · cases h
section
variable {cfg : Cfg}
theorem nil_stayG {d : Option Nat} {F F' : St} (h : StayG [] F F') : StayG d.toList F F' := h.mono fun i _ => rfl
theorem op_stayG {K : KF} {draw : Bool} {ds : List Nat} {lab : Nat} {o : Oper} {F F' : St} (h : opRun cfg K draw ds lab o F = some F') : StayG o.dst.toList F F' := by
  have pt : ∀ {G F' : St} {v : AV}, G.put o.dst v = some F' → G.t = F.t → StayG o.dst.toList F F' := by
    intro G F' v h hG i hi
    have := put_stayG h i hi
    unfold NB at this ⊢
    rw [hG] at this
    exact this
  unfold opRun at h
  split at h
  · split at h
    · cases h
    · exact pt h rfl
  · unfold opRunV at h
    split at h
    · split at h
      · split at h
        · obtain ⟨F1, h1, h2⟩ := Option.bind_eq_some_iff.1 h
          exact (nil_stayG (write_stayG h1)).trans (put_stayG h2)
        · cases h
      · cases h
    · split at h
      · rename_i fs F1 h1
        split at h
        · rename_i cs F2 h2
          exact ((nil_stayG (freeze_stayG _ h1)).trans (nil_stayG (freeze_stayG _ h2))).trans (put_stayG h)
        · cases h
      · cases h
    · rename_i c hc
      split at h
      · split at h
        · obtain ⟨⟨v, al⟩, h1, h2⟩ := Option.bind_eq_some_iff.1 h
          exact pt (G := { F with al := al }) h2 rfl
        · cases h
      · obtain ⟨v, h1, h2⟩ := Option.bind_eq_some_iff.1 h
        exact pt h2 rfl
      · split at h
        · rename_i g first captured ht
          dsimp only at h
          split at h
          · split at h
            · split at h
              · obtain ⟨⟨r, H⟩, h1, h2⟩ := Option.bind_eq_some_iff.1 h
                unfold drawE at h2
                split at h2
                · split at h2
                  · exact pt h2 rfl
                  · cases h2
                · split at h2
                  · exact pt h2 rfl
                  · cases h2
              · obtain ⟨⟨r, H⟩, h1, h2⟩ := Option.bind_eq_some_iff.1 h
                dsimp only at h2
                split at h2
                · exact pt (G := { F with al := markR lab F.al r, H := H }) h2 rfl
                · cases h2
            · split at h
              · obtain ⟨r, h1, h2⟩ := Option.bind_eq_some_iff.1 h
                split at h2
                · exact pt h2 rfl
                · split at h2
                  · exact pt (G := { F with al := markR lab F.al r }) h2 rfl
                  · cases h2
              · cases h
          · cases h
        · cases h
      · cases h
    · obtain ⟨v, h1, h2⟩ := Option.bind_eq_some_iff.1 h
      exact pt h2 rfl
theorem ops_stayG {K : KF} {draw : Bool} {ds : List Nat} {all : Array Oper} : ∀ (l : List Oper) {lab : Nat} {F F' : St}, opsRun cfg K draw ds all l lab F = some F' → StayG (dstsOps l) F F'
  | [], lab, F, F', h => by cases h; exact .refl _ _
  | o :: l, lab, F, F', h => by
    unfold opsRun at h
    obtain ⟨w, h1, h2⟩ := Option.bind_eq_some_iff.1 h
    obtain ⟨F1, h3, h4⟩ := Option.bind_eq_some_iff.1 h2
    have hst := ops_stayG l h4
    have h5 : StayG o.dst.toList F F1 := by
      cases w with
      | true => exact op_stayG h3
      | false => exact put_stayG h3
    refine StayG.trans (h5.mono fun i hi => ?_) (hst.mono fun i hi => ?_)
    · unfold dstsOps at hi
      split at hi
      · rename_i d hd
        rw [hd]
        simp only [List.contains_eq_mem, List.mem_cons, decide_eq_false_iff_not, not_or] at hi
        simp [hi.1]
      · rename_i hd; rw [hd]; rfl
    · unfold dstsOps at hi
      split at hi
      · simp only [List.contains_eq_mem, List.mem_cons, decide_eq_false_iff_not, not_or] at hi ⊢
        exact hi.2
      · exact hi
theorem evN_stayG : ∀ (n : Nat) (c : Code) {F F' : St} {x : X}, (evN cfg n).1 c F = some (x, F') → StayG (dsts c) F F'
  | 0, c, F, F', x, h => by cases h
  | n + 1, c, F, F', x, h0 => by
    have IH := fun c {F F' : St} {x : X} => evN_stayG n c (F := F) (F' := F') (x := x)
    have h : codeStep cfg (evN cfg n).1 (evN cfg n).2 n c F = some (x, F') := h0
    clear h0
    cases c <;> simp only [codeStep] at h <;> first | (cases h; done) | skip
    case skip => cases h; exact .refl _ _
    case label l => cases h; exact .refl _ _
    case exit l => cases h; exact .refl _ _
    case goto l => cases h; exact .refl _ _
    case ret => cases h; exact .refl _ _
    case seq a b =>
      obtain ⟨⟨y, F1⟩, h1, h2⟩ := Option.bind_eq_some_iff.1 h
      have e1 := (IH a h1).mono (ds' := dsts a ++ dsts b) fun i hi => (contains_app hi).1
      cases y with
      | normal => exact e1.trans ((IH b h2).mono fun i hi => (contains_app hi).2)
      | exit i => cases h2; exact e1
      | goto i => cases h2; exact e1
      | ret => cases h2; exact e1
    case cond o a b =>
      split at h
      · rename_i t ht
        cases t with
        | true => exact (IH a h).mono fun i hi => (contains_app hi).1
        | false => exact (IH b h).mono fun i hi => (contains_app hi).2
      · cases h
    case block id b =>
      simp only [Option.map_eq_some_iff] at h
      obtain ⟨⟨y, F1⟩, h1, h2⟩ := h
      have e1 := IH b h1
      split at h2 <;> (cases h2; exact e1)
    case loop b =>
      have key : ∀ (m : Nat) {F F' : St} {x : X}, loopRun ((evN cfg n).1 b) m F = some (x, F') → StayG (dsts b) F F' := by
        intro m
        induction m with
        | zero => intro F F' x h; cases h
        | succ m ih =>
          intro F F' x h
          simp only [loopRun] at h
          obtain ⟨⟨y, F1⟩, h1, h2⟩ := Option.bind_eq_some_iff.1 h
          have e1 := IH b h1
          cases y with
          | normal => exact e1.trans (ih h2)
          | exit i => cases h2; exact e1
          | goto i => cases h2; exact e1
          | ret => cases h2; exact e1
      exact key n h
    case region id ops draw =>
      simp only [regionRun, Option.map_eq_some_iff] at h
      obtain ⟨F1, h1, h2⟩ := h
      cases h2
      have := ops_stayG _ h1
      exact fun i hi => this i hi
    case scope b =>
      obtain ⟨⟨y, F1⟩, h1, h2⟩ := Option.bind_eq_some_iff.1 h
      have e1 := IH b h1
      cases y with
      | goto l =>
        simp only at h2
        split at h2
        · rename_i rest hrest
          obtain ⟨⟨z, F2⟩, h3, h4⟩ := Option.bind_eq_some_iff.1 h2
          have e2 := (IH rest h3).mono (dsts_label b hrest)
          cases z with
          | goto i => cases h4
          | normal => cases h4; exact e1.trans e2
          | exit i => cases h4; exact e1.trans e2
          | ret => cases h4; exact e1.trans e2
        · cases h2
      | normal => cases h2; exact e1
      | exit i => cases h2; exact e1
      | ret => cases h2; exact e1
theorem aw_stayG {c : Code} {F : St} {Q : X → St → Prop} (h : Aw cfg c F fun x F' => StayG (dsts c) F F' → Q x F') : Aw cfg c F Q := by
  obtain ⟨x, F', e, q⟩ := h
  obtain ⟨n, hn⟩ := evC_some.1 e
  exact ⟨x, F', e, q (evN_stayG n c hn)⟩
end
end Go.Proofs.W
