/- Regions that draw their order: two operations, the other way round; every order. -/
import Derived.Test.YtdgihbbekacgcaaDoorV19
namespace Go.Proofs.V
open Go Go.RowKit
set_option linter.unusedVariables false
set_option linter.unusedSimpArgs false

section
variable {cfg : Cfg} {K : KF} {ops : Array Oper} {ds : List Nat} {c : Nat}

/-- Operation number p.1 comes up. -/
def stepO (cfg : Cfg) (K : KF) (ds : List Nat) (ops : Array Oper) (c : Nat) (p : Nat × Oper) (F : St) : Option St :=
  (guardA ops p.2 F).bind fun w => if w then opRun cfg K true ds (c + 64 * p.1) p.2 F else F.put p.2.dst und
def runL (cfg : Cfg) (K : KF) (ds : List Nat) (ops : Array Oper) (c : Nat) : List (Nat × Oper) → St → Option St
  | [], F => some F
  | p :: l, F => (stepO cfg K ds ops c p F).bind (runL cfg K ds ops c l)

theorem opsRun_runL : ∀ (l : List Oper) (k : Nat) (F : St), opsRun cfg K true ds ops l (c + 64 * k) F = runL cfg K ds ops c ((List.range' k l.length).zip l) F
  | [], k, F => by simp [opsRun, runL]
  | o :: l, k, F => by
    simp only [opsRun, List.length_cons, List.range'_succ, List.zip_cons_cons, runL, stepO]
    cases hg : guardA ops o F with
    | none => rfl
    | some b =>
      simp only [Option.bind_some]
      congr 1
      funext F'
      have := opsRun_runL l (k + 1) F'
      rw [show c + 64 * (k + 1) = c + 64 * k + 64 by omega] at this
      rw [this]

/-- The step of an operation that turns its slot, and marks at most. -/
theorem stepO0 {p : Nat × Oper} {F : St} (hk : kindOf p.2.op = 0) : stepO cfg K ds ops c p F = ((guardA ops p.2 F).bind fun w => if w then val0 cfg K ds (c + 64 * p.1) p.2 F else some und).bind fun v => F.put p.2.dst v := by
  unfold stepO
  cases guardA ops p.2 F with
  | none => rfl
  | some b => cases b <;> simp [opRun0 hk]
theorem stepO1 {p : Nat × Oper} {F : St} (hk : kindOf p.2.op = 1) : stepO cfg K ds ops c p F = ((guardA ops p.2 F).bind fun w => if w then val1' cfg (c + 64 * p.1) p.2 F else some (und, F.al)).bind fun r => F.putAl p.2.dst r.1 r.2 := by
  unfold stepO
  cases guardA ops p.2 F with
  | none => rfl
  | some b => cases b <;> simp [opRun1 hk, St.putAl]

theorem put_n {F F' : St} {d : Option Nat} {v : AV} (h : F.put d v = some F') : F'.n = F.n ∧ F'.H = F.H ∧ F'.al = F.al ∧ F'.c = F.c ∧ F'.t = (match d with | none => F.t | some d => upd F.t d v) ∧ (∀ e, d = some e → e < F.n) := by
  cases d with
  | none => cases h; exact ⟨rfl, rfl, rfl, rfl, rfl, fun e he => by cases he⟩
  | some d =>
    simp only [St.put] at h
    split at h
    · cases h; exact ⟨rfl, rfl, rfl, rfl, rfl, fun e he => by cases he; assumption⟩
    · cases h

theorem put_m {F F' : St} {d : Option Nat} {v : AV} {al : Nat → Bool} (h : F.putAl d v al = some F') : F'.m = F.m := by
  cases d with
  | none => cases h; rfl
  | some d =>
    simp only [St.putAl, St.put] at h
    split at h
    · cases h; rfl
    · cases h
theorem agree_put {o : Oper} {F F' : St} {d : Option Nat} {v : AV} {al : Nat → Bool} (h : F.putAl d v al = some F') (h1 : ∀ e, d = some e → e ∉ o.looksAt ops) (h2 : ∀ e, d = some e → ds.contains e = true) : Agree ops ds o F F' := by
  have hp := put_n (F := { F with al := al }) h
  refine ⟨hp.1, hp.2.1, fun t ht => ?_, fun t ht => ?_, put_m h⟩
  · rw [hp.2.2.2.2.1]
    cases d with
    | none => rfl
    | some d =>
      simp only [upd_apply]
      rw [if_neg]
      rintro rfl
      exact h1 _ rfl ht
  · rw [hp.2.2.2.2.1]
    cases d with
    | none => rfl
    | some d =>
      simp only [upd_apply]
      rw [if_neg]
      rintro rfl
      rw [h2 _ rfl] at ht
      cases ht

theorem upd_comm {α : Type} (f : Nat → α) {i j : Nat} (h : i ≠ j) (x y : α) : upd (upd f i x) j y = upd (upd f j y) i x := by
  funext k
  simp only [upd_apply]
  split <;> split <;> simp_all

/-- Two puts, the other way round. -/
theorem put_swap {F F1 F2 : St} {d e : Option Nat} {x y : AV} {al al' : Nat → Bool} (hne : ∀ k, d = some k → e ≠ some k) (h1 : F.putAl d x al = some F1) (h2 : F1.putAl e y al' = some F2) (al1 : Nat → Bool) :
    ∃ F1', F.putAl e y al1 = some F1' ∧ F1'.putAl d x al' = some F2 := by
  cases d with
  | none =>
    cases e with
    | none => cases h1; cases h2; exact ⟨_, rfl, rfl⟩
    | some e =>
      cases h1
      simp only [St.putAl, St.put] at h2 ⊢
      split at h2
      · rename_i hlt
        have hlt : e < F.n := hlt
        cases h2
        exact ⟨_, by rw [if_pos hlt], rfl⟩
      · cases h2
  | some d =>
    simp only [St.putAl, St.put] at h1
    split at h1
    · rename_i hlt
      have hlt : d < F.n := hlt
      cases h1
      cases e with
      | none =>
        cases h2
        refine ⟨_, rfl, ?_⟩
        simp only [St.putAl, St.put]
        rw [if_pos hlt]
      | some e =>
        simp only [St.putAl, St.put] at h2
        split at h2
        · rename_i hlt2
          have hlt2 : e < F.n := hlt2
          cases h2
          refine ⟨{ F with al := al1, t := upd F.t e y }, by simp only [St.putAl, St.put]; rw [if_pos hlt2], ?_⟩
          simp only [St.putAl, St.put]
          rw [if_pos hlt]
          have : d ≠ e := fun he => hne d rfl (by rw [he])
          rw [upd_comm F.t this]
        · cases h2
    · cases h1

theorem put_putAl (F : St) (d : Option Nat) (v : AV) : F.put d v = F.putAl d v F.al := rfl

/-- TWO OPERATIONS, THE OTHER WAY ROUND. -/
theorem swap {p q : Nat × Oper} {F F1 F2 : St} (hpq : pairOk ops p.2 q.2 = true) (hdp : ∀ e, p.2.dst = some e → ds.contains e = true) (hdq : ∀ e, q.2.dst = some e → ds.contains e = true)
    (h1 : stepO cfg K ds ops c p F = some F1) (h2 : stepO cfg K ds ops c q F1 = some F2) : ∃ F1', stepO cfg K ds ops c q F = some F1' ∧ stepO cfg K ds ops c p F1' = some F2 := by
  simp only [pairOk, Bool.and_eq_true, decide_eq_true_eq] at hpq
  obtain ⟨hap, hk⟩ := hpq
  obtain ⟨a1, a2, a3⟩ := Oper.apart_spec hap
  have hk2 : (kindOf p.2.op = 0 ∧ kindOf q.2.op = 0) ∨ (kindOf p.2.op = 0 ∧ kindOf q.2.op = 1) ∨ (kindOf p.2.op = 1 ∧ kindOf q.2.op = 0) := by omega
  rcases hk2 with ⟨kp, kq⟩ | ⟨kp, kq⟩ | ⟨kp, kq⟩
  · rw [stepO0 kp] at h1
    rw [stepO0 kq] at h2
    obtain ⟨x, hx, hp1⟩ := Option.bind_eq_some_iff.1 h1
    obtain ⟨y, hy, hp2⟩ := Option.bind_eq_some_iff.1 h2
    have g1 : Agree ops ds q.2 F F1 := agree_put (al := F.al) hp1 a1 hdp
    obtain ⟨F1', b1, b2⟩ := put_swap (al := F.al) (al' := F1.al) (fun k hk => a2 k hk) hp1 hp2 F.al
    have e1 : F1.al = F.al := (put_n hp1).2.2.1
    have g2 : Agree ops ds p.2 F F1' := agree_put b1 a3 hdq
    have e2 : F1'.al = F.al := (put_n (F := { F with al := F.al }) b1).2.2.1
    refine ⟨F1', ?_, ?_⟩
    · rw [stepO0 kq]
      refine Option.bind_eq_some_iff.2 ⟨y, ?_, b1⟩
      rw [← hy, g1.guard, g1.val0]
    · rw [stepO0 kp]
      refine Option.bind_eq_some_iff.2 ⟨x, ?_, ?_⟩
      · rw [← hx, g2.guard, g2.val0]
      · rw [put_putAl, e2, ← e1]; exact b2
  · rw [stepO0 kp] at h1
    rw [stepO1 kq] at h2
    obtain ⟨x, hx, hp1⟩ := Option.bind_eq_some_iff.1 h1
    obtain ⟨⟨y, al'⟩, hy, hp2⟩ := Option.bind_eq_some_iff.1 h2
    have g1 : Agree ops ds q.2 F F1 := agree_put (al := F.al) hp1 a1 hdp
    obtain ⟨F1', b1, b2⟩ := put_swap (al := F.al) (al' := al') (fun k hk => a2 k hk) hp1 hp2 al'
    have e1 : F1.al = F.al := (put_n hp1).2.2.1
    have g2 : Agree ops ds p.2 F F1' := agree_put b1 a3 hdq
    have e2 : F1'.al = al' := (put_n (F := { F with al := al' }) b1).2.2.1
    refine ⟨F1', ?_, ?_⟩
    · rw [stepO1 kq]
      refine Option.bind_eq_some_iff.2 ⟨(y, al'), ?_, b1⟩
      rw [← hy, g1.guard, g1.val1 e1, e1]
    · rw [stepO0 kp]
      refine Option.bind_eq_some_iff.2 ⟨x, ?_, ?_⟩
      · rw [← hx, g2.guard, g2.val0]
      · rw [put_putAl, e2]; exact b2
  · rw [stepO1 kp] at h1
    rw [stepO0 kq] at h2
    obtain ⟨⟨x, al'⟩, hx, hp1⟩ := Option.bind_eq_some_iff.1 h1
    obtain ⟨y, hy, hp2⟩ := Option.bind_eq_some_iff.1 h2
    have g1 : Agree ops ds q.2 F F1 := agree_put hp1 a1 hdp
    have e1 : F1.al = al' := (put_n (F := { F with al := al' }) hp1).2.2.1
    rw [put_putAl, e1] at hp2
    obtain ⟨F1', b1, b2⟩ := put_swap (al := al') (al' := al') (fun k hk => a2 k hk) hp1 hp2 F.al
    have g2 : Agree ops ds p.2 F F1' := agree_put b1 a3 hdq
    have e2 : F1'.al = F.al := (put_n (F := { F with al := F.al }) b1).2.2.1
    refine ⟨F1', ?_, ?_⟩
    · rw [stepO0 kq]
      refine Option.bind_eq_some_iff.2 ⟨y, ?_, b1⟩
      rw [← hy, g1.guard, g1.val0]
    · rw [stepO1 kp]
      refine Option.bind_eq_some_iff.2 ⟨(x, al'), ?_, b2⟩
      rw [← hx, g2.guard, g2.val1 e2, e2]

/-- An operation that may come up is taken ahead of those that stand before it. -/
theorem ahead {q : Nat × Oper} {post : List (Nat × Oper)} (hdq : ∀ e, q.2.dst = some e → ds.contains e = true) : ∀ (pre : List (Nat × Oper)) {F Fn : St}, (∀ p ∈ pre, pairOk ops p.2 q.2 = true ∧ ∀ e, p.2.dst = some e → ds.contains e = true) →
    runL cfg K ds ops c (pre ++ q :: post) F = some Fn → ∃ F', stepO cfg K ds ops c q F = some F' ∧ runL cfg K ds ops c (pre ++ post) F' = some Fn
  | [], F, Fn, _, h => by
    obtain ⟨F', h1, h2⟩ := Option.bind_eq_some_iff.1 h
    exact ⟨F', h1, h2⟩
  | p :: pre, F, Fn, hp, h => by
    obtain ⟨F1, h1, h2⟩ := Option.bind_eq_some_iff.1 h
    obtain ⟨F2, h3, h4⟩ := ahead hdq pre (fun p hp' => hp p (by simp [hp'])) h2
    obtain ⟨g1, g2⟩ := hp p (by simp)
    obtain ⟨F1', b1, b2⟩ := swap g1 g2 hdq h1 h3
    exact ⟨F1', b1, Option.bind_eq_some_iff.2 ⟨F2, b2, h4⟩⟩

theorem reach_listed {listed : Array Bool} (hcl : ∀ j o, ops[j]? = some o → listed.getD j false = true → ∀ e ∈ o.after, Region.binds .any e = true → listed.getD e.on false = true) : ∀ (f : Nat) {i j : Nat} {o : Oper}, ops[j]? = some o →
    (∀ e ∈ o.after, Region.binds .any e = true → listed.getD e.on false = true) → reach ops f j i = true → listed.getD i false = true
  | 0, i, j, o, _, _, h => by simp [reach] at h
  | f + 1, i, j, o, ho, hall, h => by
    simp only [reach, ho, Bool.or_eq_true, Array.any_eq_true'] at h
    rcases h with ⟨e, he, h⟩ | ⟨e, he, h⟩
    · simp only [Bool.and_eq_true, beq_iff_eq] at h
      rw [← h.2]
      exact hall e he h.1
    · simp only [Bool.and_eq_true] at h
      have hl := hall e he h.1
      cases hk : ops[e.on]? with
      | none => cases f <;> simp [reach, hk] at h
      | some o' => exact reach_listed hcl f hk (hcl _ _ hk hl) h.2
end
end Go.Proofs.V
