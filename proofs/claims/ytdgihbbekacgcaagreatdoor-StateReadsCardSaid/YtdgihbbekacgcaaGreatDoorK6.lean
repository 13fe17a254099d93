/- Regions that draw their order: two operations, the other way round; every order. -/
import Derived.Test.YtdgihbbekacgcaaGreatDoorK5
namespace Go.Proofs.V
open Go Go.RowKit
set_option linter.unusedVariables false
set_option linter.unusedSimpArgs false
section
variable {cfg : Cfg} {K : KF} {ops : Array Oper} {ds : List Nat} {c : Nat}
/-- Operation number p.1 comes up. -/
def stepO (cfg : Cfg) (K : KF) (ds : List Nat) (ops : Array Oper) (c : Nat) (p : Nat × Oper) (F : St) : Option St :=
  (guardA ops p.2 F).bind fun w => if w then opRun cfg K true ds (c + 64 * p.1) p.2 F else F.put p.2.dst und
def runL (cfg : Cfg) (K : KF) (ds : List Nat) (ops : Array Oper) (c : Nat) : List (Nat × Oper) → St → Option St
  | [], F => some F
  | p :: l, F => (stepO cfg K ds ops c p F).bind (runL cfg K ds ops c l)

theorem opsRun_runL : ∀ (l : List Oper) (k : Nat) (F : St), opsRun cfg K true ds ops l (c + 64 * k) F = runL cfg K ds ops c ((List.range' k l.length).zip l) F
  | [], k, F => by simp [opsRun, runL]
  | o :: l, k, F => by
    simp only [opsRun, List.length_cons, List.range'_succ, List.zip_cons_cons, runL, stepO]
    cases hg : guardA ops o F with
    | none => rfl
    | some b =>
      simp only [Option.bind_some]
      congr 1
      funext F'
      have := opsRun_runL l (k + 1) F'
      rw [show c + 64 * (k + 1) = c + 64 * k + 64 by omega] at this
      rw [this]

/-- What a step turns. -/
def stepR (cfg : Cfg) (K : KF) (ds : List Nat) (ops : Array Oper) (c : Nat) (p : Nat × Oper) (F : St) : Option Res :=
  (guardA ops p.2 F).bind fun w => if w then res cfg K ds (c + 64 * p.1) p.2 F else some ⟨und, none, none⟩
theorem stepO_res {p : Nat × Oper} {F : St} (hk : kindOf p.2.op ≤ 1) : stepO cfg K ds ops c p F = (stepR cfg K ds ops c p F).bind (app F p.2.dst) := by
  unfold stepO stepR
  cases guardA ops p.2 F with
  | none => rfl
  | some b => cases b <;> simp [opRun_res hk, app, apA]
theorem stepR_da {p : Nat × Oper} {F : St} {r : Res} (h : stepR cfg K ds ops c p F = some r) (hk : kindOf p.2.op ≠ 1) (hc : isCallV p.2.op = false) : r.da = none := by
  unfold stepR at h
  obtain ⟨w, _, h⟩ := Option.bind_eq_some_iff.1 h
  split at h
  · exact res_da h hk hc
  · cases h; rfl
theorem stepR_dc {p : Nat × Oper} {F : St} {r : Res} (h : stepR cfg K ds ops c p F = some r) (hk : kindOf p.2.op ≠ 1) : r.da = none ∨ ∃ v, r.da = some fun al => markR (c + 64 * p.1) al v := by
  unfold stepR at h
  obtain ⟨w, _, h⟩ := Option.bind_eq_some_iff.1 h
  split at h
  · exact res_dc h hk
  · cases h; exact .inl rfl
theorem markR_comm (a b : Nat) (u v : AV) (al : Nat → Bool) : markR a (markR b al u) v = markR b (markR a al v) u := by
  funext n
  simp only [markR]
  cases al n <;> cases freshR a v n <;> cases freshR b u n <;> rfl
theorem stepR_dH {p : Nat × Oper} {F : St} {r : Res} (h : stepR cfg K ds ops c p F = some r) (hk : (heavyOp cfg p.2.op && blind ds) = false) : r.dH = none := by
  unfold stepR at h
  obtain ⟨w, _, h⟩ := Option.bind_eq_some_iff.1 h
  split at h
  · exact res_dH h hk
  · cases h; rfl
theorem stepR_agree {p : Nat × Oper} {F F' : St} (h : Agree ops ds p.2 F F') (hal : kindOf p.2.op = 1 → F'.al = F.al) (hH : (heavyOp cfg p.2.op && blind ds) = true → F'.H = F.H) : stepR cfg K ds ops c p F' = stepR cfg K ds ops c p F := by
  unfold stepR
  rw [h.guard, h.res hal hH]

theorem app_spec {F F' : St} {d : Option Nat} {r : Res} (h : app F d r = some F') : F'.n = F.n ∧ F'.H = r.dH.getD F.H ∧ F'.al = apA r.da F.al ∧ F'.m = F.m ∧ F'.t = (match d with | none => F.t | some d => upd F.t d r.x) := by
  unfold app at h
  cases d with
  | none => cases h; exact ⟨rfl, rfl, rfl, rfl, rfl⟩
  | some d =>
    simp only [St.put] at h
    split at h
    · cases h; exact ⟨rfl, rfl, rfl, rfl, rfl⟩
    · cases h
theorem agree_app {o : Oper} {F F' : St} {d : Option Nat} {r : Res} (h : app F d r = some F') (h1 : ∀ e, d = some e → e ∉ o.looksAt ops) (h2 : ∀ e, d = some e → ds.contains e = true) (hH : r.dH = none ∨ blind ds = true) : Agree ops ds o F F' := by
  obtain ⟨p1, p2, p3, p4, p5⟩ := app_spec h
  refine ⟨p1, ?_, fun t ht => ?_, fun t ht => ?_, p4⟩
  · rcases hH with hH | hH
    · rw [p2, hH]; exact .inl rfl
    · exact .inr hH
  · rw [p5]
    cases d with
    | none => rfl
    | some d =>
      simp only [upd_apply]
      rw [if_neg]
      rintro rfl
      exact h1 _ rfl ht
  · rw [p5]
    cases d with
    | none => rfl
    | some d =>
      simp only [upd_apply]
      rw [if_neg]
      rintro rfl
      rw [h2 _ rfl] at ht
      cases ht

theorem upd_comm {α : Type} (f : Nat → α) {i j : Nat} (h : i ≠ j) (x y : α) : upd (upd f i x) j y = upd (upd f j y) i x := by
  funext k
  simp only [upd_apply]
  split <;> split <;> simp_all

/-- Two turns, the other way round. -/
theorem app_swap {F F1 F2 : St} {d e : Option Nat} {r s : Res} (hne : ∀ k, d = some k → e ≠ some k) (ha : ∀ al, apA s.da (apA r.da al) = apA r.da (apA s.da al)) (hH : r.dH = none ∨ s.dH = none) (h1 : app F d r = some F1) (h2 : app F1 e s = some F2) :
    ∃ F1', app F e s = some F1' ∧ app F1' d r = some F2 := by
  obtain ⟨x, da, dH⟩ := r
  obtain ⟨y, ea, eH⟩ := s
  have key : ∀ {al : Nat → Bool} {H : List (List AV)}, al = apA ea (apA da F.al) → H = eH.getD (dH.getD F.H) → al = apA da (apA ea F.al) ∧ H = dH.getD (eH.getD F.H) := by
    intro al H h1 h2
    constructor
    · rw [h1]
      exact ha F.al
    · rw [h2]
      rcases hH with h | h <;> dsimp only at h <;> subst h <;> rfl
  obtain ⟨k1, k2⟩ := key rfl rfl
  unfold app at *
  cases d with
  | none =>
    cases e with
    | none =>
      cases h1; cases h2
      refine ⟨_, rfl, ?_⟩
      simp only [St.put]
      rw [← k1, ← k2]
    | some e =>
      cases h1
      simp only [St.put] at h2 ⊢
      split at h2
      · rename_i hlt
        have hlt : e < F.n := hlt
        cases h2
        refine ⟨_, by rw [if_pos hlt], ?_⟩
        simp only
        rw [← k1, ← k2]
      · cases h2
  | some d =>
    simp only [St.put] at h1
    split at h1
    · rename_i hlt
      have hlt : d < F.n := hlt
      cases h1
      cases e with
      | none =>
        cases h2
        refine ⟨_, rfl, ?_⟩
        simp only [St.put]
        rw [if_pos hlt, ← k1, ← k2]
      | some e =>
        simp only [St.put] at h2
        split at h2
        · rename_i hlt2
          have hlt2 : e < F.n := hlt2
          cases h2
          refine ⟨{ F with al := apA ea F.al, H := eH.getD F.H, t := upd F.t e y }, by simp only [St.put]; rw [if_pos hlt2], ?_⟩
          simp only [St.put]
          rw [if_pos hlt]
          have : d ≠ e := fun he => hne d rfl (by rw [he])
          rw [upd_comm F.t this, ← k1, ← k2]
        · cases h2
    · cases h1

/-- TWO OPERATIONS, THE OTHER WAY ROUND. -/
theorem swap {p q : Nat × Oper} {F F1 F2 : St} (hpq : pairOk ops p.2 q.2 = true) (hhv : (heavyOp cfg p.2.op && blind ds) = false ∨ (heavyOp cfg q.2.op && blind ds) = false) (hdp : ∀ e, p.2.dst = some e → ds.contains e = true) (hdq : ∀ e, q.2.dst = some e → ds.contains e = true)
    (h1 : stepO cfg K ds ops c p F = some F1) (h2 : stepO cfg K ds ops c q F1 = some F2) : ∃ F1', stepO cfg K ds ops c q F = some F1' ∧ stepO cfg K ds ops c p F1' = some F2 := by
  simp only [pairOk, Bool.and_eq_true, decide_eq_true_eq, Bool.not_eq_true', Bool.and_eq_false_iff, decide_eq_false_iff_not] at hpq
  obtain ⟨⟨⟨hap, hk⟩, hcp⟩, hcq⟩ := hpq
  obtain ⟨a1, a2, a3⟩ := Oper.apart_spec hap
  rw [stepO_res (by omega)] at h1 h2
  obtain ⟨r, hr, hp1⟩ := Option.bind_eq_some_iff.1 h1
  obtain ⟨s, hs, hp2⟩ := Option.bind_eq_some_iff.1 h2
  have hbl : ∀ {o : Op}, ¬ (heavyOp cfg o && blind ds) = false → blind ds = true := fun h => by
    rw [Bool.not_eq_false, Bool.and_eq_true] at h
    exact h.2
  have rH : r.dH = none ∨ blind ds = true := by
    by_cases h : (heavyOp cfg p.2.op && blind ds) = false
    · exact .inl (stepR_dH hr h)
    · exact .inr (hbl h)
  have g1 : Agree ops ds q.2 F F1 := agree_app hp1 a1 hdp rH
  obtain ⟨-, s2, s3, -, -⟩ := app_spec hp1
  have hs' : stepR cfg K ds ops c q F = some s := by
    rw [← hs]
    refine (stepR_agree g1 (fun hq => ?_) (fun hq => ?_)).symm
    · rw [s3, stepR_da hr (by omega) (hcp.resolve_right (fun hx => hx hq))]; rfl
    · have : (heavyOp cfg p.2.op && blind ds) = false := hhv.resolve_right (by rw [hq]; simp)
      rw [s2, stepR_dH hr this]; rfl
  have sH : s.dH = none ∨ blind ds = true := by
    by_cases h : (heavyOp cfg q.2.op && blind ds) = false
    · exact .inl (stepR_dH hs h)
    · exact .inr (hbl h)
  have hda : ∀ al, apA s.da (apA r.da al) = apA r.da (apA s.da al) := by
    intro al
    by_cases h : kindOf p.2.op = 1
    · rw [stepR_da hs (by omega) (hcq.resolve_right (fun hx => hx h))]; rfl
    · rcases stepR_dc hr h with e | ⟨v, e⟩
      · rw [e]; rfl
      · by_cases h2 : kindOf q.2.op = 1
        · rw [stepR_da hr h (hcp.resolve_right (fun hx => hx h2))]; rfl
        · rcases stepR_dc hs h2 with e2 | ⟨u, e2⟩
          · rw [e2]; rfl
          · rw [e, e2]
            exact markR_comm _ _ _ _ _
  have hdH : r.dH = none ∨ s.dH = none := by
    rcases hhv with h | h
    · exact .inl (stepR_dH hr h)
    · exact .inr (stepR_dH hs h)
  obtain ⟨F1', b1, b2⟩ := app_swap (fun k hk => a2 k hk) hda hdH hp1 hp2
  have g2 : Agree ops ds p.2 F F1' := agree_app b1 a3 hdq sH
  obtain ⟨-, t2, t3, -, -⟩ := app_spec b1
  refine ⟨F1', ?_, ?_⟩
  · rw [stepO_res (by omega), hs']; exact b1
  · rw [stepO_res (by omega), stepR_agree g2 (fun hp => by rw [t3, stepR_da hs (by omega) (hcq.resolve_right (fun hx => hx hp))]; rfl) (fun hp => by
      have : (heavyOp cfg q.2.op && blind ds) = false := hhv.resolve_left (by rw [hp]; simp)
      rw [t2, stepR_dH hs this]; rfl), hr]
    exact b2

theorem app_t {F F' : St} {d : Option Nat} {r : Res} (h : app F d r = some F') {s : Nat} (hd : ¬ d = some s) : F'.t s = F.t s := by
  unfold app at h
  cases d with
  | none => cases h; rfl
  | some d =>
    simp only [St.put] at h
    split at h
    · cases h
      exact upd_ne _ _ _ _ (by rintro rfl; exact hd rfl)
    · cases h
/-- A store into a box, carried out. -/
theorem store_step {p : Nat × Oper} {F F1 : St} {s : Nat} (hs : stSlot p.2.op = some s) (hd : p.2.dst = none) (hg : p.2.guard = none) (hlb : ds.contains (s + LB) = true) :
    stepO cfg K ds ops c p F = some F1 ↔ ∃ t v n g row, p.2.op = .store t (.tmp s) v ∧ tsz cfg.P t = some n ∧ ((F.ev v).storable = true ∧ (F.ev v).cells.length = n) ∧ F.t s = .box g row ∧ 0 + (F.ev v).cells.length ≤ row.length ∧ F1 = { F with t := upd F.t s (.box g (splice row 0 (F.ev v).cells)) } := by
  obtain ⟨k, o⟩ := p
  simp only at hs hd hg
  generalize ho : o.op = op at hs
  unfold stSlot at hs
  split at hs
  · rename_i t q v
    cases hs
    unfold stepO guardA
    simp only [hg, Option.bind_some, if_true]
    unfold opRun
    simp only [ho, allocH]
    unfold opRunV
    simp only [ho, hd]
    have hok : ∀ {F : St}, stBoxOk true ds F (.tmp s) = true ↔ ∃ g row, F.t s = .box g row := by
      intro F
      simp only [stBoxOk, Bool.not_true, Bool.false_or, hlb]
      constructor
      · intro h
        cases hF : F.t s <;> rw [hF] at h <;> first | exact ⟨_, _, rfl⟩ | (simp [isBoxA] at h)
      · rintro ⟨g, row, h⟩
        rw [h]; rfl
    constructor
    · intro h
      split at h
      · rename_i n hn
        split at h
        · rename_i hc
          obtain ⟨g, row, hF⟩ := hok.1 hc.2
          have hev : F.ev (.tmp s) = .fp g s 0 := by
            show F.tmp s = _
            unfold St.tmp
            rw [hF]
          rw [hev] at h
          simp only [St.write, hF, true_and] at h
          split at h
          · rename_i hl
            simp only [Option.bind_some, St.put] at h
            cases h
            exact ⟨t, v, n, g, row, rfl, hn, hc.1, hF, hl, rfl⟩
          · cases h
        · cases h
      · cases h
    · rintro ⟨t', v', n, g, row, he, hn, hc, hF, hl, rfl⟩
      cases he
      rw [hn]
      simp only
      have hev : F.ev (.tmp s) = .fp g s 0 := by
        show F.tmp s = _
        unfold St.tmp
        rw [hF]
      rw [if_pos ⟨hc, hok.2 ⟨g, row, hF⟩⟩, hev]
      simp only [St.write, hF, true_and, hl, if_true, Option.bind_some, St.put]
  · cases hs
theorem store_op {p : Oper} {s : Nat} {t : TypeId} {v : Operand} (h : p.op = .store t (.tmp s) v) : v ∈ p.op.operands := by
  rw [h]; simp [Op.operands]
theorem heavy_call {o : Op} (h : isCallV o = false) : heavyOp cfg o = false := by
  unfold heavyOp
  split
  · split
    · rename_i c g hc
      simp [isCallV, hc] at h
    · rfl
  · rfl
/-- A store into a box, and an operation that does not look at it: the other way round. -/
theorem swapS {p q : Nat × Oper} (hpq : stPair ops p.2 q.2 = true) (hlo : ∀ e, (loose ops).contains e = true → ds.contains e = true) (hdq : ∀ e, q.2.dst = some e → ds.contains e = true) :
    (∀ {F F1 F2 : St}, stepO cfg K ds ops c p F = some F1 → stepO cfg K ds ops c q F1 = some F2 → ∃ F1', stepO cfg K ds ops c q F = some F1' ∧ stepO cfg K ds ops c p F1' = some F2) ∧
    (∀ {F F1 F2 : St}, stepO cfg K ds ops c q F = some F1 → stepO cfg K ds ops c p F1 = some F2 → ∃ F1', stepO cfg K ds ops c p F = some F1' ∧ stepO cfg K ds ops c q F1' = some F2) := by
  unfold stPair at hpq
  split at hpq
  rotate_left
  · cases hpq
  · rename_i s hs
    simp only [Bool.and_eq_true, decide_eq_true_eq, Bool.not_eq_true', bne_iff_ne, ne_eq, Option.isNone_iff_eq_none] at hpq
    obtain ⟨⟨⟨⟨⟨⟨⟨⟨l1, l2⟩, pd⟩, pg⟩, hap⟩, k0⟩, kc⟩, hl⟩, hdn⟩ := hpq
    obtain ⟨a1, a2, a3⟩ := Oper.apart_spec hap
    have hsd := hlo _ l1
    have hlb := hlo _ l2
    have hheavy : (heavyOp cfg q.2.op && blind ds) = false := by rw [heavy_call kc]; rfl
    have hl' : s ∉ q.2.looksAt ops := by simpa using hl
    -- q does not see the box
    have agQ : ∀ {F : St} {x : AV}, Agree ops ds q.2 F { F with t := upd F.t s x } := fun {F x} =>
      ⟨rfl, .inl rfl, fun t ht => upd_ne _ _ _ _ (by rintro rfl; exact hl' ht), fun t ht => upd_ne _ _ _ _ (by rintro rfl; rw [hsd] at ht; cases ht), rfl⟩
    have stQ : ∀ {F : St} {x : AV}, stepR cfg K ds ops c q { F with t := upd F.t s x } = stepR cfg K ds ops c q F := fun {F x} => stepR_agree agQ (fun _ => rfl) (fun _ => rfl)
    -- the box, and what is stored, stay as q goes by
    have after : ∀ {F F' : St} {r : Res}, stepR cfg K ds ops c q F = some r → app F q.2.dst r = some F' → F'.t s = F.t s ∧ (∀ t v, p.2.op = .store t (.tmp s) v → F'.ev v = F.ev v) := by
      intro F F' r hr ha
      refine ⟨?_, fun t v hv => (agree_app ha a3 hdq (.inl (stepR_dH hr hheavy))).ev (store_op hv)⟩
      exact app_t ha hdn
    have app_box : ∀ {F : St} {r : Res} {x : AV}, r.da = none → r.dH = none → app { F with t := upd F.t s x } q.2.dst r = (app F q.2.dst r).map fun F' => { F' with t := upd F'.t s x } := by
      intro F r x h1 h2
      unfold app
      rw [h1, h2]
      cases hq : q.2.dst with
      | none => rfl
      | some d =>
        simp only [St.put, Option.getD_none]
        split
        · simp only [Option.map_some]
          rw [upd_comm F.t (by rintro rfl; exact hdn hq)]
        · rfl
    constructor
    · intro F F1 F2 h1 h2
      obtain ⟨t, v, n, g, row, e1, e2, e3, e4, e5, rfl⟩ := (store_step hs pd pg hlb).1 h1
      rw [stepO_res (by omega), stQ] at h2
      obtain ⟨r, hr, ha⟩ := Option.bind_eq_some_iff.1 h2
      rw [app_box (stepR_da hr (by omega) kc) (stepR_dH hr hheavy)] at ha
      simp only [Option.map_eq_some_iff] at ha
      obtain ⟨F1', ha, rfl⟩ := ha
      obtain ⟨b1, b2⟩ := after hr ha
      refine ⟨F1', by rw [stepO_res (by omega), hr]; exact ha, (store_step hs pd pg hlb).2 ⟨t, v, n, g, row, e1, e2, ?_, ?_, ?_, ?_⟩⟩
      · rw [b2 t v e1]; exact e3
      · rw [b1]; exact e4
      · rw [b2 t v e1]; exact e5
      · rw [b2 t v e1]
    · intro F F1 F2 h1 h2
      rw [stepO_res (by omega)] at h1
      obtain ⟨r, hr, ha⟩ := Option.bind_eq_some_iff.1 h1
      obtain ⟨b1, b2⟩ := after hr ha
      obtain ⟨t, v, n, g, row, e1, e2, e3, e4, e5, rfl⟩ := (store_step hs pd pg hlb).1 h2
      rw [b2 t v e1] at e3 e5 ⊢
      rw [b1] at e4
      refine ⟨_, (store_step hs pd pg hlb).2 ⟨t, v, n, g, row, e1, e2, e3, e4, e5, rfl⟩, ?_⟩
      rw [stepO_res (by omega), stQ, hr]
      show app _ _ _ = _
      rw [app_box (stepR_da hr (by omega) kc) (stepR_dH hr hheavy), ha]
      rfl
/-- Two operations that may come up either way. -/
def PairOk2 (cfg : Cfg) (ds : List Nat) (ops : Array Oper) (x y : Oper) : Prop := (pairOk ops x y = true ∧ ((heavyOp cfg x.op && blind ds) = false ∨ (heavyOp cfg y.op && blind ds) = false)) ∨ stPair ops x y = true ∨ stPair ops y x = true

/-- An operation that may come up is taken ahead of those that stand before it. -/
theorem ahead {q : Nat × Oper} {post : List (Nat × Oper)} (hlo : ∀ e, (loose ops).contains e = true → ds.contains e = true) (hdq : ∀ e, q.2.dst = some e → ds.contains e = true) : ∀ (pre : List (Nat × Oper)) {F Fn : St}, (∀ p ∈ pre, PairOk2 cfg ds ops p.2 q.2 ∧ ∀ e, p.2.dst = some e → ds.contains e = true) →
    runL cfg K ds ops c (pre ++ q :: post) F = some Fn → ∃ F', stepO cfg K ds ops c q F = some F' ∧ runL cfg K ds ops c (pre ++ post) F' = some Fn
  | [], F, Fn, _, h => by
    obtain ⟨F', h1, h2⟩ := Option.bind_eq_some_iff.1 h
    exact ⟨F', h1, h2⟩
  | p :: pre, F, Fn, hp, h => by
    obtain ⟨F1, h1, h2⟩ := Option.bind_eq_some_iff.1 h
    obtain ⟨F2, h3, h4⟩ := ahead hlo hdq pre (fun p hp' => hp p (by simp [hp'])) h2
    obtain ⟨g1, g2⟩ := hp p (by simp)
    have hsw : ∃ F1', stepO cfg K ds ops c q F = some F1' ∧ stepO cfg K ds ops c p F1' = some F2 := by
      rcases g1 with g1 | g1 | g1
      · exact swap g1.1 g1.2 g2 hdq h1 h3
      · exact (swapS g1 hlo hdq).1 h1 h3
      · exact (swapS g1 hlo g2).2 h1 h3
    obtain ⟨F1', b1, b2⟩ := hsw
    exact ⟨F1', b1, Option.bind_eq_some_iff.2 ⟨F2, b2, h4⟩⟩

theorem reach_listed {listed : Array Bool} (hcl : ∀ j o, ops[j]? = some o → listed.getD j false = true → ∀ e ∈ o.after, Region.binds .any e = true → listed.getD e.on false = true) : ∀ (f : Nat) {i j : Nat} {o : Oper}, ops[j]? = some o →
    (∀ e ∈ o.after, Region.binds .any e = true → listed.getD e.on false = true) → reach ops f j i = true → listed.getD i false = true
  | 0, i, j, o, _, _, h => by simp [reach] at h
  | f + 1, i, j, o, ho, hall, h => by
    simp only [reach, ho, Bool.or_eq_true, Array.any_eq_true'] at h
    rcases h with ⟨e, he, h⟩ | ⟨e, he, h⟩
    · simp only [Bool.and_eq_true, beq_iff_eq] at h
      rw [← h.2]
      exact hall e he h.1
    · simp only [Bool.and_eq_true] at h
      have hl := hall e he h.1
      cases hk : ops[e.on]? with
      | none => cases f <;> simp [reach, hk] at h
      | some o' => exact reach_listed hcl f hk (hcl _ _ hk hl) h.2
end
end Go.Proofs.V
