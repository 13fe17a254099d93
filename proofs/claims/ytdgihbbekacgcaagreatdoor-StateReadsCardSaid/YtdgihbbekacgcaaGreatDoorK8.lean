/- Code, functions, and the whole of the evaluator: what it says holds. -/
import Derived.Test.YtdgihbbekacgcaaGreatDoorK7
import Derived.ScopeJumps
namespace Go.Proofs.V
open Go Go.RowKit
set_option linter.unusedVariables false
set_option linter.unusedSimpArgs false
def X.exit' : X → Exit
  | .normal => .normal
  | .exit id => .exit id
  | .goto l => .goto l
  | .ret => .ret

/-- Code without jumps of its own. -/
def noScope : Code → Bool
  | .seq a b => noScope a && noScope b
  | .cond _ a b => noScope a && noScope b
  | .block _ b => noScope b
  | .loop b => noScope b
  | .scope _ => false
  | _ => true
theorem noScope_and {ro : Option Nat} {a b : Bool} (h : ro = none ∨ (a && b) = true) : (ro = none ∨ a = true) ∧ (ro = none ∨ b = true) := by
  rcases h with h | h
  · exact ⟨.inl h, .inl h⟩
  · simp only [Bool.and_eq_true] at h; exact ⟨.inr h.1, .inr h.2⟩
/-- What is told of code. -/
def CodeSound (cfg : Cfg) (e : CF) : Prop := ∀ (c : Code) {E0 : Nat → Prop} {w0 : Ent} {G : Gh} {F F' : St} {a : Act} {w : World} {x : X} {n : Nat} {ro : Option Nat} {Q : Exit → Act → World → Prop}, (ro = none ∨ noScope c = true) → Inv E0 w0 (fun m => m < F.c) G F a w → codeOk c = true → e c F = some (x, F') →
  (∀ G' a' w', Inv E0 w0 (fun m => m < F'.c) G' F' a' w' → Q x.exit' a' w') → c.wpIn (Fx ro) n cfg.P Q a w

theorem loop_sound {cfg : Cfg} {e : CF} (he : CodeSound cfg e) (b : Code) {ro : Option Nat} (hns : ro = none ∨ noScope b = true) (hok : codeOk b = true) {E0 : Nat → Prop} {w0 : Ent} {n : Nat} {Q : Exit → Act → World → Prop} {x : X} {F' : St} (hQ : ∀ G' a' w', Inv E0 w0 (fun m => m < F'.c) G' F' a' w' → Q x.exit' a' w') :
    ∀ (m : Nat) {G : Gh} {F : St} {a : Act} {w : World}, Inv E0 w0 (fun m => m < F.c) G F a w → loopRun (e b) m F = some (x, F') → Code.roundsIn (Fx ro) n cfg.P b Q m a w
  | 0, G, F, a, w, _, hr => by cases hr
  | m + 1, G, F, a, w, h, hr => by
    simp only [loopRun] at hr
    obtain ⟨⟨y, F1⟩, h1, h2⟩ := Option.bind_eq_some_iff.1 hr
    rw [roundsIn_succ]
    refine he b hns h hok h1 fun G' a' w' h' => ?_
    cases y with
    | normal => exact loop_sound he b hns hok hQ m h' h2
    | exit id => cases h2; exact hQ G' a' w' h'
    | goto l => cases h2; exact hQ G' a' w' h'
    | ret => cases h2; exact hQ G' a' w' h'

theorem codeOk_label : ∀ (c : Code) {l : Nat} {rest : Code}, codeOk c = true → findLabel c l = some rest → codeOk rest = true
  | .seq a b, l, rest, hok, hf => by
    simp only [codeOk, Bool.and_eq_true] at hok
    simp only [findLabel] at hf
    split at hf
    · rename_i r hr
      cases hf
      simp only [codeOk, Bool.and_eq_true]
      exact ⟨codeOk_label a hok.1 hr, hok.2⟩
    · exact codeOk_label b hok.2 hf
  | .label l', l, rest, _, hf => by
    simp only [findLabel] at hf
    split at hf
    · cases hf; rfl
    · cases hf
  | .skip, l, rest, _, hf => by simp [findLabel] at hf
  | .cond .., l, rest, _, hf => by simp [findLabel] at hf
  | .block .., l, rest, _, hf => by simp [findLabel] at hf
  | .loop _, l, rest, _, hf => by simp [findLabel] at hf
  | .exit _, l, rest, _, hf => by simp [findLabel] at hf
  | .goto _, l, rest, _, hf => by simp [findLabel] at hf
  | .ret, l, rest, _, hf => by simp [findLabel] at hf
  | .region .., l, rest, _, hf => by simp [findLabel] at hf
  | .scope _, l, rest, _, hf => by simp [findLabel] at hf
  | .rangeFunc .., l, rest, _, hf => by simp [findLabel] at hf
  | .refuse .., l, rest, _, hf => by simp [findLabel] at hf
theorem codeStep_sound {cfg : Cfg} {e : CF} {K : KF} (he : CodeSound cfg e) (hs : Sound cfg K) (hmix : cfg.P.follows .mixedOrders = true) (fuel : Nat) : CodeSound cfg (codeStep cfg e K fuel) := by
  intro c E0 w0 G F F' a w x n ro Q hns h hok hr hQ
  cases c <;> simp only [codeStep] at hr <;> first | (cases hr; done) | skip
  case skip => cases hr; exact wpIn_skip (hQ G a w h)
  case label l => cases hr; exact wpIn_label (hQ G a w h)
  case seq p q =>
    simp only [codeOk, Bool.and_eq_true] at hok
    obtain ⟨⟨y, F1⟩, h1, h2⟩ := Option.bind_eq_some_iff.1 hr
    refine wpIn_seq (he p (noScope_and hns).1 h hok.1 h1 fun G' a' w' h' => ?_)
    cases y with
    | normal => exact he q (noScope_and hns).2 h' hok.2 h2 hQ
    | exit id => cases h2; exact hQ G' a' w' h'
    | goto l => cases h2; exact hQ G' a' w' h'
    | ret => cases h2; exact hQ G' a' w' h'
  case cond o p q =>
    simp only [codeOk, Bool.and_eq_true] at hok
    split at hr
    · rename_i t ht
      have hv := (opd h o).rv
      rw [ht] at hv
      have hv : R1 G.S G.E (.at (.bool t)) (a.eval o) := hv
      have hc : a.eval o = .bool t := by
        generalize a.eval o = z at hv
        cases hv; rfl
      refine wpIn_cond hc ?_
      cases t with
      | true => exact he p (noScope_and hns).1 h hok.1 hr hQ
      | false => exact he q (noScope_and hns).2 h hok.2 hr hQ
    · cases hr
  case block id b =>
    simp only [Option.map_eq_some_iff] at hr
    obtain ⟨⟨y, F1⟩, h1, h2⟩ := hr
    refine wpIn_block (he b hns h hok h1 fun G' a' w' h' => ?_)
    by_cases hy : y = .exit id
    · subst hy
      simp only [if_true] at h2
      cases h2
      simp only [X.exit', Exit.inBlock, if_true]
      exact hQ G' a' w' h'
    · rw [if_neg hy] at h2
      cases h2
      cases x with
      | normal => exact hQ G' a' w' h'
      | exit id' =>
        have : id' ≠ id := fun e => hy (by rw [e])
        simp only [X.exit', Exit.inBlock, this, if_false]
        exact hQ G' a' w' h'
      | goto l => exact hQ G' a' w' h'
      | ret => exact hQ G' a' w' h'
  case loop b => exact wpIn_loop_rounds fuel (loop_sound he b hns hok hQ fuel h hr)
  case exit id => cases hr; exact wpIn_exit (hQ G a w h)
  case goto l => cases hr; exact wpIn_goto (hQ G a w h)
  case ret => cases hr; exact wpIn_ret (hQ G a w h)
  case region id ops draw =>
    refine region_sound hs hmix h (fun m hm => hm) hok hr fun G' a' w' hx h' => ?_
    have := hQ G' a' w' h'
    rw [hx] at this
    exact this
  case scope b =>
    have hokb : codeOk b = true := hok
    obtain ⟨⟨y, F1⟩, h1, h2⟩ := Option.bind_eq_some_iff.1 hr
    have hro : ro = none := by rcases hns with h | h; exact h; cases h
    subst hro
    have hfx : Fx none = Fence.wide := rfl
    rw [hfx, wpIn_wide]
    cases y with
    | goto l =>
      simp only at h2
      split at h2
      · rename_i rest hf
        obtain ⟨⟨z, F2⟩, h3, h4⟩ := Option.bind_eq_some_iff.1 h2
        have hokr := codeOk_label b hokb hf
        refine wp_scope_jumps l (fun a' w' => ∃ G', Inv E0 w0 (fun m => m < F1.c) G' F1 a' w') (fun _ _ => 0) hf ?_ ?_
        · rw [← wpIn_wide (n := n), ← hfx]
          exact he b (.inl rfl) h hokb h1 fun G' a' w' h' => ⟨rfl, G', h'⟩
        · rintro a' w' ⟨G', h'⟩
          rw [← wpIn_wide (n := n), ← hfx]
          refine he rest (.inl rfl) h' hokr h3 fun G' a' w' h' => ?_
          cases z with
          | normal => cases h4; exact hQ G' a' w' h'
          | exit id => cases h4; exact hQ G' a' w' h'
          | goto l => cases h4
          | ret => cases h4; exact hQ G' a' w' h'
      · cases h2
    | normal =>
      cases h2
      refine wp_scope_straight ?_
      rw [← wpIn_wide (n := n), ← hfx]
      exact he b (.inl rfl) h hokb h1 fun G' a' w' h' => hQ G' a' w' h'
    | exit id =>
      cases h2
      refine wp_scope_straight ?_
      rw [← wpIn_wide (n := n), ← hfx]
      exact he b (.inl rfl) h hokb h1 fun G' a' w' h' => hQ G' a' w' h'
    | ret =>
      cases h2
      refine wp_scope_straight ?_
      rw [← wpIn_wide (n := n), ← hfx]
      exact he b (.inl rfl) h hokb h1 fun G' a' w' h' => hQ G' a' w' h'

theorem leave1_R1 {S : Addr → Option Value} {E : Nat → Option Nat} {al : Nat → Bool} {x : AV} {v : Value} (h : R1 S E x v) : R1 S E (leave1 al x).1 v := by
  cases h with
  | «at» v => exact .at v
  | nil own => cases own <;> simp only [leave1] <;> first | exact .nil _ | (split <;> exact .nil _)
  | slice rows own b off cap sz val hlen hsz hfull hpl h1 h2 =>
    cases own with
    | no => exact .slice rows .no b off cap sz val hlen hsz (by intro h; cases h) hpl h1 h2
    | full => exact .slice rows .full b off cap sz val hlen hsz hfull hpl h1 h2
    | fresh => exact .slice rows .no b off cap sz val hlen hsz (by intro h; cases h) hpl h1 h2
    | id n =>
      simp only [leave1]
      split
      · exact .slice rows .fresh b off cap sz val hlen hsz (by intro h; cases h) hpl h1 h2
      · exact .slice rows .no b off cap sz val hlen hsz (by intro h; cases h) hpl h1 h2
  | ref row off b o val hpl h1 h2 => exact .ref row off b o val hpl h1 h2
  | hp l off b h => exact .hp l off b h
  | fn f first captured fs cs hf hc h1 h2 => exact .fn f first captured fs cs hf hc h1 h2
  | agg cs vs hl hpl h => exact strip_R1 (.agg cs vs hl hpl h)
  | tup cs vs hl h => exact .tup cs vs hl h
  | ifc t x v h => exact .ifc t x v h
  | hs l off len cap sz b h => exact .hs l off len cap sz b h
theorem leave1_plain (al : Nat → Bool) (x : AV) : (leave1 al x).1.plain = x.plain := by
  unfold leave1
  split
  · split <;> rfl
  · rfl
  · rfl
  · rfl
theorem leave1_al (al : Nat → Bool) (x : AV) (n : Nat) : (leave1 al x).2 n = true → al n = true := by
  unfold leave1
  split
  · split
    · simp only [upd_apply]; split <;> simp
    · exact id
  · exact id
  · exact id
  · exact id
theorem leave1_fresh {al : Nat → Bool} {x : AV} {rows : List (List AV)} {nl : Bool} (h : (leave1 al x).1 = .slice rows nl .fresh) : ∃ n, x = .slice rows nl (.id n) ∧ al n = true ∧ (leave1 al x).2 n = false := by
  unfold leave1 at h ⊢
  split at h
  · split at h
    · rename_i n hn
      cases h
      exact ⟨n, rfl, hn, by simp [hn, upd_apply]⟩
    · cases h
  · cases h
  · cases h
  · rename_i h1 h2 h3
    have h : x = .slice rows nl .fresh := h
    exact (h2 _ _ h).elim
theorem leave1_noId {al : Nat → Bool} {x : AV} {rows : List (List AV)} {nl : Bool} {n : Nat} : (leave1 al x).1 ≠ .slice rows nl (.id n) := by
  intro h
  unfold leave1 at h
  split at h
  · split at h <;> cases h
  · cases h
  · cases h
  · rename_i h1 h2 h3
    exact h1 _ _ _ h

theorem leaveL_len : ∀ (l : List AV) (al : Nat → Bool), (leaveL al l).length = l.length
  | [], _ => rfl
  | x :: l, al => by simp [leaveL, leaveL_len l]
theorem leaveL_get : ∀ (l : List AV) (al : Nat → Bool) (j : Nat) (y : AV), (leaveL al l)[j]? = some y → ∃ al' x, l[j]? = some x ∧ y = (leave1 al' x).1 ∧ (∀ n, al' n = true → al n = true) ∧
    ∀ k z, k < j → (leaveL al l)[k]? = some z → ∀ rows nl, z = .slice rows nl .fresh → ∃ n, l[k]? = some (.slice rows nl (.id n)) ∧ al n = true ∧ al' n = false
  | [], al, j, y, h => by simp [leaveL] at h
  | x :: l, al, 0, y, h => by
    simp [leaveL] at h
    exact ⟨al, x, rfl, h.symm, fun n h => h, fun k z hk => by omega⟩
  | x :: l, al, j + 1, y, h => by
    simp only [leaveL, List.getElem?_cons_succ] at h
    obtain ⟨al', x', h1, h2, h3, h4⟩ := leaveL_get l _ j y h
    refine ⟨al', x', by simpa using h1, h2, fun n hn => leave1_al al x n (h3 n hn), fun k z hk hz rows nl he => ?_⟩
    cases k with
    | zero =>
      simp [leaveL] at hz
      obtain ⟨n, q1, q2, q3⟩ := leave1_fresh (hz.trans he)
      refine ⟨n, by simp [q1], q2, ?_⟩
      cases hb : al' n with
      | false => rfl
      | true => rw [h3 n hb] at q3; cases q3
    | succ k =>
      obtain ⟨n, q1, q2, q3⟩ := h4 k z (by omega) (by simpa [leaveL] using hz) rows nl he
      exact ⟨n, by simpa using q1, leave1_al al x n q2, q3⟩

/-- What becomes of each part. -/
theorem leaveR_get {r : AV} (hr : ∀ g cs, r ≠ .box g cs) (al : Nat → Bool) (j : Nat) (y : AV) (h : (parts (leaveR al r))[j]? = some y) : (∃ al' x, (parts r)[j]? = some x ∧ y = (leave1 al' x).1 ∧ (∀ n, al' n = true → al n = true) ∧
    ∀ k z, k < j → (parts (leaveR al r))[k]? = some z → ∀ rows nl, z = .slice rows nl .fresh → ∃ n, (parts r)[k]? = some (.slice rows nl (.id n)) ∧ al n = true ∧ al' n = false) := by
  cases r with
  | tup vs => exact leaveL_get vs al j y h
  | agg vs => exact leaveL_get vs al j y h
  | box g cs => exact (hr g cs rfl).elim
  | slice rows nl own =>
    have e : parts (leaveR al (.slice rows nl own)) = [(leave1 al (.slice rows nl own)).1] := by
      cases own <;> simp only [leaveR, leave1] <;> first | rfl | (split <;> rfl)
    rw [e] at h
    cases j with
    | zero =>
      simp at h
      exact ⟨al, _, rfl, h.symm, fun n h => h, fun k z hk => by omega⟩
    | succ j => simp at h
  | _ =>
    cases j with
    | zero =>
      simp [leaveR, leave1, parts] at h
      exact ⟨al, _, rfl, by simp [leave1, h], fun n h => h, fun k z hk => by omega⟩
    | succ j => simp [leaveR, leave1, parts] at h

theorem leaveR_R1 {S : Addr → Option Value} {E : Nat → Option Nat} {al : Nat → Bool} {r : AV} {v : Value} (h : R1 S E r v) : R1 S E (leaveR al r) v := by
  cases h with
  | agg cs vs hl hpl h =>
    refine .agg _ _ (by rw [leaveL_len]; exact hl) (fun x hx => ?_) (fun j x v hx hv => ?_)
    · obtain ⟨j, hj⟩ := List.getElem?_of_mem hx
      obtain ⟨al', y, h1, rfl, _⟩ := leaveL_get _ _ _ _ hj
      rw [leave1_plain]
      exact hpl y (List.mem_of_getElem? h1)
    · obtain ⟨al', y, h1, rfl, _⟩ := leaveL_get _ _ _ _ hx
      exact leave1_R1 (h j y v h1 hv)
  | tup cs vs hl h =>
    refine .tup _ _ (by rw [leaveL_len]; exact hl) (fun j x v hx hv => ?_)
    obtain ⟨al', y, h1, rfl, _⟩ := leaveL_get _ _ _ _ hx
    exact leave1_R1 (h j y v h1 hv)
  | «at» v => exact .at v
  | nil own => exact leave1_R1 (.nil own)
  | slice rows own b off cap sz val hlen hsz hfull hpl h1 h2 => exact leave1_R1 (.slice rows own b off cap sz val hlen hsz hfull hpl h1 h2)
  | ref row off b o val hpl h1 h2 => exact .ref row off b o val hpl h1 h2
  | hp l off b h => exact .hp l off b h
  | fn f first captured fs cs hf hc h1 h2 => exact .fn f first captured fs cs hf hc h1 h2
  | ifc t x v h => exact .ifc t x v h
  | hs l off len cap sz b h => exact .hs l off len cap sz b h

section
variable {E0 : Nat → Prop} {w0 : Ent} {Z : Nat → Prop} {G : Gh} {F : St} {a : Act} {w : World}
/-- What a function that ends hands over. -/
theorem leave_post {w₁ : World} {S : Addr → Option Value} {E : Nat → Option Nat} (h : Inv (fun b => ∃ l, E l = some b) { toWorld := w₁, S0 := S, Em := E } Z G F a w) {r : AV} {v : Value} (hr : R1 G.S G.E r v) (hc : Cl G F.al r v) :
    CPost w₁ S E (leaveR F.al r) F.H v G.S G.E (fun j => match (parts r)[j]? with
      | some (.slice _ _ (.id n)) => G.ρ n
      | _ => ⟨0, 0, 0, 0⟩) w where
  bel := h.bel
  sS := h.rel.1
  sN := fun ad h0 hb => h.rel.2.1 ad h0 hb id
  mem := h.mem
  eS := h.rel.2.2.1
  eN l b h0 hb := ⟨h.rel.2.2.2.1 l b h0 hb, (h.objE hb).2.2⟩
  eH := h.rel.2.2.2.2
  heap l cs hl := by
    obtain ⟨b, vs, h1, h2, h3, h4⟩ := h.obj l cs hl
    exact ⟨b, vs, h1, h4⟩
  inj l l' b h1 h2 := by
    have e1 := (h.objE h1).2.1
    have e2 := (h.objE h2).2.1
    rw [e1] at e2
    cases e2
    rfl
  rv := leaveR_R1 hr
  nid := by
    rintro n ⟨y, hy, rows, nl, rfl⟩
    obtain ⟨j, hj⟩ := List.getElem?_of_mem hy
    obtain ⟨al', x, h1, h2, _⟩ := leaveR_get hr.nobox _ _ _ hj
    exact leave1_noId h2.symm
  fresh j u rows nl hx hu := by
    obtain ⟨al', x, h1, h2, h3, _⟩ := leaveR_get hr.nobox _ _ _ hx
    obtain ⟨n, rfl, hn, _⟩ := leave1_fresh h2.symm
    have hal := h3 n hn
    obtain ⟨c1, c2, c3, c4⟩ := hc j _ u h1 hu rows nl n rfl hal
    obtain ⟨r1, r2, r3, r4, r5⟩ := h.row n hal
    simp only [h1]
    refine ⟨c1, c2, c3, c4, r1, r3, r4, r5, fun l hl => ?_⟩
    have := (h.objE hl).2.1
    rw [r2] at this
    cases this
  apart j j' rows nl rows' nl' hx hx' hb := by
    obtain ⟨al', x, h1, h2, h3, h4⟩ := leaveR_get hr.nobox _ _ _ hx
    obtain ⟨n, rfl, hn, _⟩ := leave1_fresh h2.symm
    obtain ⟨al'', x', h1', h2', h3', h4'⟩ := leaveR_get hr.nobox _ _ _ hx'
    obtain ⟨n', rfl, hn', _⟩ := leave1_fresh h2'.symm
    simp only [h1, h1'] at hb
    have e1 := (h.row n (h3 n hn)).2.1
    have e2 := (h.row n' (h3' n' hn')).2.1
    rw [hb, e2] at e1
    cases e1
    rcases Nat.lt_trichotomy j j' with hlt | heq | hgt
    · obtain ⟨m, m1, m2, m3⟩ := h4' j _ hlt hx rows nl rfl
      rw [h1] at m1
      cases m1
      rw [hn'] at m3
      cases m3
    · exact heq
    · obtain ⟨m, m1, m2, m3⟩ := h4 j' _ hgt hx' rows' nl' rfl
      rw [h1'] at m1
      cases m1
      rw [hn] at m3
      cases m3

def resM (tmps : Array Value) : ResultVar → Sem Value
  | .tmp t => pure (tmps.getD t Go.undef)
  | .cell b t => do loadVar t (← asAddr (tmps.getD b Go.undef))
/-- One result variable. -/
theorem resultA_sound {P : Program} (h : Inv E0 w0 Z G F a w) {rv : ResultVar} {x : AV} (hr : resultA P F rv = some x) : ∃ v, (resM a.tmps rv).run P w = .ok v w ∧ Opd G F Z x v := by
  cases rv with
  | tmp t =>
    simp only [resultA] at hr
    split at hr
    · cases hr
      exact ⟨_, rfl, opd h (.tmp t)⟩
    · cases hr
  | cell b t =>
    simp only [resultA] at hr
    split at hr
    · rename_i row off n g h1 h2 h3
      split at hr
      · simp only [Option.map_eq_some_iff] at hr
        obtain ⟨y, hy, rfl⟩ := hr
        obtain ⟨ad, v, e1, e2, e3⟩ := q_loadO h (p := .tmp b) (show F.look [] (F.ev (.tmp b)) = some (row, off) from h1) h2 h3 hy
        refine ⟨v, ?_, e3⟩
        have e1 : a.tmps.getD b Go.undef = .pointer (some ad) := e1
        simp only [resM, e1, asAddr, Sem.run_bind, Sem.run_pure, Result.andThen_ok, e2]
      · cases hr
    · cases hr
theorem resultsA_sound {P : Program} (h : Inv E0 w0 Z G F a w) : ∀ {l : List ResultVar} {xs : List AV}, resultsA P F l = some xs → ∃ vs, (l.mapM (resM a.tmps)).run P w = .ok vs w ∧ All2 (Opd G F Z) xs vs
  | [], xs, hr => by
    cases hr
    exact ⟨[], rfl, rfl, fun j x v hx => by simp at hx⟩
  | r :: l, xs, hr => by
    simp only [resultsA] at hr
    obtain ⟨x, h1, h2⟩ := Option.bind_eq_some_iff.1 hr
    simp only [Option.map_eq_some_iff] at h2
    obtain ⟨ys, h2, rfl⟩ := h2
    obtain ⟨v, e1, e2⟩ := resultA_sound h h1
    obtain ⟨vs, e3, e4⟩ := resultsA_sound h h2
    refine ⟨v :: vs, ?_, by simp [e4.1], fun j x v hx hv => ?_⟩
    · rw [List.mapM_cons]
      simp only [Sem.run_bind]
      rw [show Sem.run P _ w = .ok v w from e1]
      simp only [Result.andThen_ok, Sem.run_bind]
      rw [show Sem.run P _ w = .ok vs w from e3]
      rfl
    · cases j with
      | zero => simp at hx hv; subst hx; subst hv; exact e2
      | succ j => exact e4.2 j x v (by simpa using hx) (by simpa using hv)

theorem pack_sound {xs : List AV} {vs : List Value} (hfree : xs.all AV.free = true) (h : All2 (Opd G F Z) xs vs) {v : Value} (hv : v = if h : vs.toArray.size = 1 then vs.toArray[0] else .tuple vs.toArray) : R1 G.S G.E (packA xs) v ∧ Cl G F.al (packA xs) v := by
  have hf := List.all_eq_true.1 hfree
  rcases xs with _ | ⟨x, _ | ⟨y, xs⟩⟩
  · have hl := h.1
    simp at hl
    subst hl
    simp at hv
    subst hv
    exact ⟨.tup [] [] rfl fun j x v hx => by simp at hx, fun j y u hy => by simp [packA, parts] at hy⟩
  · have hl := h.1
    rcases vs with _ | ⟨u, _ | ⟨u', vs⟩⟩ <;> simp at hl
    simp at hv
    subst hv
    have := h.2 0 x v rfl rfl
    exact ⟨R1_of this.rv (hf x (by simp)), this.cl⟩
  · have hl := h.1
    have hne : ¬ vs.toArray.size = 1 := by simp [hl]
    rw [dif_neg hne] at hv
    subst hv
    refine ⟨.tup _ _ hl fun j z u hz hu => R1_of (h.2 j z u hz hu).rv (hf z (List.mem_of_getElem? hz)), ?_⟩
    intro j z u hz hu
    have hz : (x :: y :: xs)[j]? = some z := hz
    have hu : vs[j]? = some u := by simpa [vparts] using hu
    have o := h.2 j z u hz hu
    intro rows nl n he ha
    subst he
    have hvp : vparts u = [u] := by
      have := o.rv
      have this : R1 G.S G.E (.slice rows nl (.id n)) u := this
      cases this <;> rfl
    exact o.cl 0 _ u rfl (by rw [hvp]; rfl) rows nl n rfl ha
end
open Classical in
/-- What is known where a heap is frozen. -/
noncomputable def frozen (G : Gh) (w : World) : Addr → Option Value := fun ad => if ∃ l, G.E l = some ad.block then (if ad.spot.isNone then w.cell? ad else none) else G.S ad

section
variable {E0 : Nat → Prop} {w0 : Ent} {Z : Nat → Prop} {G : Gh} {F : St} {a : Act} {w : World}
theorem frozen_S (h : Inv E0 w0 Z G F a w) : ∀ ad v, G.S ad = some v → frozen G w ad = some v := by
  intro ad v hv
  unfold frozen
  rw [if_neg]
  · exact hv
  · rintro ⟨l, hl⟩
    obtain ⟨b', vs, h1, h2, h3, _, _, _, _, h4⟩ := h.obj l (F.H[l]'(h.rel.2.2.2.2 l _ hl)) (List.getElem?_eq_getElem _)
    rw [hl] at h1
    cases h1
    rw [h4 ad rfl] at hv
    cases hv
theorem freeze1_sound (h : Inv E0 w0 Z G F a w) {x y : AV} {v : Value} (hx : Opd G F Z x v) (hf : x.free = true) (hy : freeze1A F.H x = some y) (hn : nohp 9 y = true) : R1 (frozen G w) noE y v := by
  have base : ∀ {x : AV} {v : Value} {d : Nat}, R1 G.S G.E x v → nohp d x = true → R1 (frozen G w) noE x v := fun hr hn => R1.mono (frozen_S h) (fun l b h => h) (nohp_R1 _ hn hr)
  unfold freeze1A at hy
  split at hy
  · rename_i loc off len cap sz
    obtain ⟨cells, hcells, hy⟩ := Option.bind_eq_some_iff.1 hy
    split at hy
    · cases hy
    · rename_i hlc
      simp only [Option.map_eq_some_iff] at hy
      obtain ⟨rows, hrows, rfl⟩ := hy
      obtain ⟨q1, q2, q3, q4⟩ := rowsOf_cell hrows
      obtain ⟨b', vs, g1, _, _, ⟨⟨ty, hheap⟩, hvs, hpl, hR, _⟩⟩ := h.obj loc cells hcells
      have hr : R1 G.S G.E (.hs loc off len cap sz) v := hx.rv
      cases hr with
      | hs _ _ _ _ _ b hb =>
        have hbb : b' = b := by rw [hb] at g1; exact (Option.some.inj g1).symm
        subst hbb
        simp only [nohp, List.all_eq_true] at hn
        have hex : ∃ l, G.E l = some b' := ⟨loc, hb⟩
        have key := R1.slice (S := frozen G w) (E := noE) rows .no b' off cap sz (fun i j => vs.getD (off + (i * sz + j)) Go.undef) (by omega) q3 (by intro h; cases h) (fun i j x hx => hpl x (List.mem_of_getElem? (q4 i j x hx).2.2)) (fun i j x hx => by
            obtain ⟨k1, k2, k3⟩ := q4 i j x hx
            have hlt : off + (i * sz + j) < vs.size := by rw [hvs]; exact (List.getElem?_eq_some_iff.1 k3).1
            unfold frozen
            rw [if_pos hex]
            simp [World.cell?, hheap, Array.getD, hlt]) (fun i j x hx => by
            obtain ⟨k1, k2, k3⟩ := q4 i j x hx
            have hlt : off + (i * sz + j) < vs.size := by rw [hvs]; exact (List.getElem?_eq_some_iff.1 k3).1
            have h1 := hR _ _ (vs.getD (off + (i * sz + j)) Go.undef) k3 (by simp [Array.getD, hlt])
            unfold cellAt at hx
            obtain ⟨r, e1, e2⟩ := Option.bind_eq_some_iff.1 hx
            exact base h1 (hn r (List.mem_of_getElem? e1) x (List.mem_of_getElem? e2)))
        rw [q2] at key
        exact key
  · cases hy
    exact base (R1_of hx.rv hf) hn
theorem freezeA_sound (h : Inv E0 w0 Z G F a w) : ∀ {xs ys : List AV} {vs : List Value}, All2 (Opd G F Z) xs vs → freezeA F.H xs = some ys → ys.all (nohp 9) = true → (∀ x ∈ xs, x.free = true) → All2 (R1 (frozen G w) noE) ys vs
  | [], ys, vs, h2, hy, _, _ => by
    cases hy
    have := h2.1
    simp at this
    subst this
    exact ⟨rfl, fun j x v hx => by simp at hx⟩
  | x :: xs, ys, [], h2, hy, _, _ => by have := h2.1; simp at this
  | x :: xs, ys, v :: vs, h2, hy, hn, hfree => by
    simp only [freezeA] at hy
    obtain ⟨y, e1, e2⟩ := Option.bind_eq_some_iff.1 hy
    simp only [Option.map_eq_some_iff] at e2
    obtain ⟨ys', e2, rfl⟩ := e2
    simp only [List.all_cons, Bool.and_eq_true] at hn
    have hl := h2.1
    simp at hl
    have r1 := freeze1_sound h (h2.2 0 x v rfl rfl) (hfree x (by simp)) e1 hn.1
    have r2 := freezeA_sound h (vs := vs) ⟨hl, fun j x v hx hv => h2.2 (j + 1) x v (by simpa using hx) (by simpa using hv)⟩ e2 hn.2 fun x hx => hfree x (by simp [hx])
    refine ⟨by simp [r2.1], fun j z u hz hu => ?_⟩
    cases j with
    | zero => simp at hz hu; subst hz; subst hu; exact r1
    | succ j => exact r2.2 j z u (by simpa using hz) (by simpa using hu)
theorem freezeA_free {H : List (List AV)} : ∀ {xs ys : List AV}, freezeA H xs = some ys → (∀ y ∈ ys, y.free = true) → ∀ x ∈ xs, x.free = true
  | [], _, _, _ => fun x hx => by simp at hx
  | x :: xs, ys, hy, hf => by
    simp only [freezeA] at hy
    obtain ⟨y, e1, e2⟩ := Option.bind_eq_some_iff.1 hy
    simp only [Option.map_eq_some_iff] at e2
    obtain ⟨ys', e2, rfl⟩ := e2
    intro z hz
    rcases List.mem_cons.1 hz with rfl | hz
    · unfold freeze1A at e1
      split at e1
      · rfl
      · cases e1; exact hf _ (by simp)
    · exact freezeA_free e2 (fun y hy => hf y (by simp [hy])) z hz
theorem pack_R1 {S : Addr → Option Value} {E : Nat → Option Nat} {xs : List AV} {vs : List Value} (h : All2 (R1 S E) xs vs) {v : Value} (hv : v = if h : vs.toArray.size = 1 then vs.toArray[0] else .tuple vs.toArray) : R1 S E (packA xs) v := by
  rcases xs with _ | ⟨x, _ | ⟨y, xs⟩⟩
  · have hl := h.1
    simp at hl
    subst hl
    simp at hv
    subst hv
    exact .tup [] [] rfl fun j x v hx => by simp at hx
  · have hl := h.1
    rcases vs with _ | ⟨u, _ | ⟨u', vs⟩⟩ <;> simp at hl
    simp at hv
    subst hv
    exact h.2 0 x v rfl rfl
  · have hl := h.1
    have hne : ¬ vs.toArray.size = 1 := by simp [hl]
    rw [dif_neg hne] at hv
    subst hv
    exact .tup _ _ hl h.2
end
theorem freeze_post {w₁ w : World} {S : Addr → Option Value} {Z : Nat → Prop} {G : Gh} {F : St} {a : Act} (h : Inv (fun b => ∃ l, noE l = some b) { toWorld := w₁, S0 := S, Em := noE } Z G F a w) {r : AV} {v : Value} (hr : R1 (frozen G w) noE r v) :
    CPost w₁ S noE (leaveR (fun _ => false) r) [] v (frozen G w) noE (fun _ => ⟨0, 0, 0, 0⟩) w where
  bel := h.bel
  sS ad u hu := frozen_S h ad u (h.rel.1 ad u hu)
  sN ad h0 hb := by
    unfold frozen
    rw [if_neg]
    · exact h.rel.2.1 ad h0 hb id
    · rintro ⟨l, hl⟩
      have h1 : w₁.heap.size ≤ ad.block := h.rel.2.2.2.1 l _ rfl hl
      omega
  mem ad u hu := by
    unfold frozen at hu
    split at hu
    · split at hu
      · exact hu
      · cases hu
    · exact h.mem ad u hu
  eS l b hb := by cases hb
  eN l b _ hb := by cases hb
  eH l b hb := by cases hb
  heap l cs hl := by simp at hl
  inj l l' b hb := by cases hb
  rv := leaveR_R1 hr
  nid := by
    rintro n ⟨y, hy, rows, nl, rfl⟩
    obtain ⟨j, hj⟩ := List.getElem?_of_mem hy
    obtain ⟨al', x, h1, h2, _⟩ := leaveR_get hr.nobox _ _ _ hj
    exact leave1_noId h2.symm
  fresh j u rows nl hx hu := by
    obtain ⟨al', x, h1, h2, h3, _⟩ := leaveR_get hr.nobox _ _ _ hx
    obtain ⟨n, _, hn, _⟩ := leave1_fresh h2.symm
    have := h3 n hn
    cases this
  apart j j' rows nl rows' nl' hx := by
    obtain ⟨al', x, h1, h2, h3, _⟩ := leaveR_get hr.nobox _ _ _ hx
    obtain ⟨n, _, hn, _⟩ := leave1_fresh h2.symm
    have := h3 n hn
    cases this

open Classical in
theorem inv_enter {w : World} {S : Addr → Option Value} {E : Nat → Option Nat} {H : List (List AV)} (hp : HPre w S E H) {as : List AV} {vs : List Value} (hni : ∀ x ∈ as, NoId x) (hl : vs.length = as.length) (hR : ∀ (j : Nat) (x : AV) (v : Value), as[j]? = some x → vs[j]? = some v → R1 S E x v) {n : Nat} {m : TypeId → Bool} (hn : as.length ≤ n) :
    Inv (fun b => ∃ l, E l = some b) { toWorld := w, S0 := S, Em := E } (fun m => m < 0) { S := S, B := fun _ => none, E := E, u := fun b => if h : ∃ l, E l = some b then some (.obj h.choose) else none, ρ := fun _ => ⟨0, 0, 0, 0⟩ }
      { n := n, t := argAt as, c := 0, al := fun _ => false, H := H, m := m } { tmps := vs.toArray ++ Array.replicate (n - vs.toArray.size) Go.undef, defers := [] } w := by
  have slot : ∀ i, R1 S E (argAt as i) ((vs.toArray ++ Array.replicate (n - vs.toArray.size) Go.undef).getD i Go.undef) ∧ NoId (argAt as i) := by
    intro i
    by_cases hi : i < as.length
    · have e1 : argAt as i = as[i] := by simp [argAt, hi]
      have e2 : (vs.toArray ++ Array.replicate (n - vs.toArray.size) Go.undef).getD i Go.undef = vs[i]'(by omega) := by
        rw [Array.getD_eq_getD_getElem?, Array.getElem?_append_left (by simp; omega)]
        simp [show i < vs.length by omega]
      rw [e1, e2]
      exact ⟨hR i _ _ (List.getElem?_eq_getElem hi) (List.getElem?_eq_getElem (by omega)), hni _ (List.getElem_mem hi)⟩
    · have e1 : argAt as i = und := by simp [argAt, List.getElem?_eq_none (by omega : as.length ≤ i)]
      have e2 : (vs.toArray ++ Array.replicate (n - vs.toArray.size) Go.undef).getD i Go.undef = Go.undef := by
        rw [Array.getD_eq_getD_getElem?, Array.getElem?_append_right (by simp; omega)]
        rw [Array.getElem?_replicate]
        split <;> rfl
      rw [e1, e2]
      exact ⟨.tup [] [] rfl fun j x v hx => by simp at hx, by rintro m ⟨y, hy, _⟩; simp [und, parts] at hy⟩
  have hobj : ∀ l b, E l = some b → ∃ vs cs, H[l]? = some cs ∧ Holds1 ⟨S, fun _ => none, E, fun _ => none, fun _ => ⟨0, 0, 0, 0⟩⟩ w b cs vs := by
    intro l b hb
    obtain ⟨b', vs, h1, h2⟩ := hp.heap l (H[l]'(hp.eH l b hb)) (List.getElem?_eq_getElem (hp.eH l b hb))
    rw [hb] at h1
    cases h1
    exact ⟨vs, _, List.getElem?_eq_getElem (hp.eH l b hb), h2⟩
  refine ⟨by simp; omega, rfl, fun i => RV_of (slot i).1, fun i _ j y u hy hu rows nl m he ha => (by cases ha), fun i m hm => ((slot i).2 m hm).elim, hp.mem, Bel.refl _ _, ⟨fun _ _ h => h, fun _ h _ _ => h, fun _ _ h => h, fun l b h0 hb => ?_, hp.eH⟩, fun i g cs hc => ((slot i).1.nobox g cs hc).elim,
    fun m hm => (by cases hm), fun l cs hl => ?_, fun g b hb => (by cases hb), fun m hm => (by cases hm), fun b hb => ?_, fun b o hb => (by cases hb), fun g b hb => (by cases hb)⟩
  · have h0 : E l = none := h0
    have hb : E l = some b := hb
    rw [h0] at hb
    cases hb
  · obtain ⟨b, vs, h1, h2⟩ := hp.heap l cs hl
    refine ⟨b, vs, h1, .inr ⟨l, h1⟩, ?_, h2⟩
    have hex : ∃ l, E l = some b := ⟨l, h1⟩
    show (if h : ∃ l, E l = some b then some (Tg.obj h.choose) else none) = _
    rw [dif_pos hex, hp.inj _ _ _ hex.choose_spec h1]
  · have hb : (if h : ∃ l, E l = some b then some (Tg.obj h.choose) else none).isSome = true := hb
    split at hb
    · rename_i hex
      obtain ⟨l, hl⟩ := hex
      obtain ⟨vs, cs, h1, ⟨ty, h2⟩, _⟩ := hobj l b hl
      rcases Nat.lt_or_ge b w.heap.size with h | h
      · exact h
      · rw [Array.getElem?_eq_none h] at h2; cases h2
    · cases hb

theorem callStep_sound {cfg : Cfg} {e : CF} (he : CodeSound cfg e) {g : Nat} {as : List AV} {H : List (List AV)} {r : AV} {H' : List (List AV)} (hr : callStep cfg e g as H = some (r, H')) : CSound cfg.P g as H r H' := by
  unfold callStep at hr
  split at hr
  · cases hr
  · rename_i fn hf
    split at hr
    · cases hr
    · rename_i c hb
      split at hr
      · rename_i hl
        obtain ⟨hl, hok, hname⟩ := hl
        obtain ⟨⟨x, F1⟩, h1, h2⟩ := Option.bind_eq_some_iff.1 hr
        intro w S E vs hp hni hlen hR
        refine .inr ⟨?_, fun n => ?_⟩
        · simp [callFunc, Sem.run_bind, hf, hb]
          intro hn
          simp [hn] at hname
        · refine callsIn_of_wp hf hb trivial ?_
          have h0 := inv_enter (m := cfg.heap g) hp hni hlen hR hl
          refine he c (ro := none) (.inl rfl) h0 hok h1 fun G' a' w' h' => ?_
          have fin : ∀ xs, resultsA cfg.P F1 fn.results.toList = some xs → (if cfg.frz g = true then (if H.isEmpty = true then (freezeA F1.H xs).bind fun vs' => if (vs'.all AV.free && vs'.all (nohp 9)) = true then some (leaveR (fun _ => false) (packA vs'), []) else none else none) else if xs.all AV.free = true then some (leaveR F1.al (packA xs), F1.H) else none) = some (r, H') → a'.defers = [] ∧ ∃ v, (results fn a'.tmps).run cfg.P w' = .ok v w' ∧ ∃ v', Ending.returned v = Ending.returned v' ∧ ∃ S' E' φ, CPost w S E r H' v' S' E' φ w' := by
            intro xs hxs hif
            have hres : ∀ vs' : List Value, (fn.results.toList.mapM (resM a'.tmps)).run cfg.P w' = .ok vs' w' → (results fn a'.tmps).run cfg.P w' = .ok (if h : vs'.toArray.size = 1 then vs'.toArray[0] else .tuple vs'.toArray) w' := by
              intro vs' e1
              rw [show results fn a'.tmps = (do
                  let vs ← fn.results.mapM (resM a'.tmps)
                  pure (if h : vs.size = 1 then vs[0] else .tuple vs)) from rfl]
              rw [Array.mapM_eq_mapM_toList]
              simp only [Sem.run_bind, Sem.run_map]
              rw [e1]
              rfl
            split at hif
            · split at hif
              · rename_i hH
                have hH0 : H = [] := by simpa using hH
                subst hH0
                have hE0 : E = noE := by
                  funext l
                  cases hl : E l with
                  | none => rfl
                  | some b => have := hp.eH l b hl; simp at this
                subst hE0
                obtain ⟨ys, hys, hif⟩ := Option.bind_eq_some_iff.1 hif
                split at hif
                · rename_i hc
                  simp only [Bool.and_eq_true] at hc
                  cases hif
                  refine ⟨h'.df, ?_⟩
                  obtain ⟨vs', e1, e2⟩ := resultsA_sound h' hxs
                  have hfree : ∀ x ∈ xs, x.free = true := freezeA_free hys (List.all_eq_true.1 hc.1)
                  exact ⟨_, hres vs' e1, _, rfl, _, _, _, freeze_post h' (pack_R1 (freezeA_sound h' e2 hys hc.2 hfree) rfl)⟩
                · cases hif
              · cases hif
            split at hif
            · rename_i hfree
              cases hif
              refine ⟨h'.df, ?_⟩
              obtain ⟨vs', e1, e2⟩ := resultsA_sound h' hxs
              refine ⟨if h : vs'.toArray.size = 1 then vs'.toArray[0] else .tuple vs'.toArray, ?_, _, rfl, ?_⟩
              · exact hres vs' e1
              · obtain ⟨p1, p2⟩ := pack_sound hfree e2 rfl
                exact ⟨_, _, _, leave_post h' p1 p2⟩
            · cases hif
          cases x with
          | normal =>
            simp only at h2
            obtain ⟨xs, q1, q2⟩ := Option.bind_eq_some_iff.1 h2
            exact fin xs q1 q2
          | ret =>
            simp only at h2
            obtain ⟨xs, q1, q2⟩ := Option.bind_eq_some_iff.1 h2
            exact fin xs q1 q2
          | exit id => cases h2
          | goto l => cases h2
      · cases hr

theorem evN_sound {cfg : Cfg} (hmix : cfg.P.follows .mixedOrders = true) (hx : ∀ g s as r, cfg.ext g = some s → s as = some r → CSound cfg.P g as [] r []) : ∀ m, CodeSound cfg (evN cfg m).1 ∧ Sound cfg (evN cfg m).2
  | 0 => ⟨fun c E0 w0 G F F' a w x n ro Q _ _ _ hr => (by cases hr), ⟨fun g as H r H' hk => (by cases hk), hx⟩⟩
  | m + 1 => by
    obtain ⟨h1, h2⟩ := evN_sound hmix hx m
    exact ⟨codeStep_sound h1 h2 hmix m, ⟨fun g as H r H' hk => callStep_sound h1 hk, hx⟩⟩

/-- **WHAT THE EVALUATOR SAYS OF A CALL HOLDS.** -/
theorem evK_sound {cfg : Cfg} (hmix : cfg.P.follows .mixedOrders = true) (hx : ∀ g s as r, cfg.ext g = some s → s as = some r → CSound cfg.P g as [] r []) {g : Nat} {as : List AV} {H : List (List AV)} {r : AV} {H' : List (List AV)} (h : evK cfg g as H = some (r, H')) : CSound cfg.P g as H r H' := by
  obtain ⟨n, hn⟩ := evK_some.1 h
  exact (evN_sound hmix hx n).2.k g as H r H' hn
end Go.Proofs.V
