/- Code, functions, and the whole of the evaluator: what it says holds. -/
import Derived.Test.YtnjfjjmlonalhaaDoorK5
import Derived.ScopeJumps
import Derived.Lib.Bytealg
import Derived.Laws.Externs
import Derived.IntWalk
import Derived.Laws.StructEq
namespace Go.Proofs.V
open Go Go.RowKit
set_option linter.unusedVariables false
set_option linter.unusedSimpArgs false

def X.exit' : X → Exit
  | .normal => .normal
  | .exit id => .exit id
  | .goto l => .goto l
  | .ret => .ret

/-- Code without jumps of its own. -/
def noScope : Code → Bool
  | .seq a b => noScope a && noScope b
  | .cond _ a b => noScope a && noScope b
  | .block _ b => noScope b
  | .loop b => noScope b
  | .scope _ => false
  | _ => true
theorem noScope_and {ro : Option Nat} {a b : Bool} (h : ro = none ∨ (a && b) = true) : (ro = none ∨ a = true) ∧ (ro = none ∨ b = true) := by
  rcases h with h | h
  · exact ⟨.inl h, .inl h⟩
  · simp only [Bool.and_eq_true] at h; exact ⟨.inr h.1, .inr h.2⟩
/-- What is told of code. -/
def CodeSound (cfg : Cfg) (e : CF) : Prop := ∀ (c : Code) {E0 : Nat → Prop} {w0 : Ent} {G : Gh} {F F' : St} {a : Act} {w : World} {x : X} {n : Nat} {ro : Option Nat} {Q : Exit → Act → World → Prop}, (ro = none ∨ noScope c = true) → Inv E0 w0 (fun m => m < F.c) G F a w → codeOk c = true → e c F = some (x, F') →
  (∀ G' a' w', Inv E0 w0 (fun m => m < F'.c) G' F' a' w' → Q x.exit' a' w') → c.wpIn (Fx ro) n cfg.P Q a w

theorem loop_sound {cfg : Cfg} {e : CF} (he : CodeSound cfg e) (b : Code) {ro : Option Nat} (hns : ro = none ∨ noScope b = true) (hok : codeOk b = true) {E0 : Nat → Prop} {w0 : Ent} {n : Nat} {Q : Exit → Act → World → Prop} {x : X} {F' : St} (hQ : ∀ G' a' w', Inv E0 w0 (fun m => m < F'.c) G' F' a' w' → Q x.exit' a' w') :
    ∀ (m : Nat) {G : Gh} {F : St} {a : Act} {w : World}, Inv E0 w0 (fun m => m < F.c) G F a w → loopRun (e b) m F = some (x, F') → Code.roundsIn (Fx ro) n cfg.P b Q m a w
  | 0, G, F, a, w, _, hr => by cases hr
  | m + 1, G, F, a, w, h, hr => by
    simp only [loopRun] at hr
    obtain ⟨⟨y, F1⟩, h1, h2⟩ := Option.bind_eq_some_iff.1 hr
    rw [roundsIn_succ]
    refine he b hns h hok h1 fun G' a' w' h' => ?_
    cases y with
    | normal => exact loop_sound he b hns hok hQ m h' h2
    | exit id => cases h2; exact hQ G' a' w' h'
    | goto l => cases h2; exact hQ G' a' w' h'
    | ret => cases h2; exact hQ G' a' w' h'

theorem codeOk_label : ∀ (c : Code) {l : Nat} {rest : Code}, codeOk c = true → findLabel c l = some rest → codeOk rest = true
  | .seq a b, l, rest, hok, hf => by
    simp only [codeOk, Bool.and_eq_true] at hok
    simp only [findLabel] at hf
    split at hf
    · rename_i r hr
      cases hf
      simp only [codeOk, Bool.and_eq_true]
      exact ⟨codeOk_label a hok.1 hr, hok.2⟩
    · exact codeOk_label b hok.2 hf
  | .label l', l, rest, _, hf => by
    simp only [findLabel] at hf
    split at hf
    · cases hf; rfl
    · cases hf
  | .skip, l, rest, _, hf => by simp [findLabel] at hf
  | .cond .., l, rest, _, hf => by simp [findLabel] at hf
  | .block .., l, rest, _, hf => by simp [findLabel] at hf
  | .loop _, l, rest, _, hf => by simp [findLabel] at hf
  | .exit _, l, rest, _, hf => by simp [findLabel] at hf
  | .goto _, l, rest, _, hf => by simp [findLabel] at hf
  | .ret, l, rest, _, hf => by simp [findLabel] at hf
  | .region .., l, rest, _, hf => by simp [findLabel] at hf
  | .scope _, l, rest, _, hf => by simp [findLabel] at hf
  | .rangeFunc .., l, rest, _, hf => by simp [findLabel] at hf
  | .refuse .., l, rest, _, hf => by simp [findLabel] at hf
theorem codeStep_sound {cfg : Cfg} {e : CF} {K : KF} (he : CodeSound cfg e) (hs : Sound cfg K) (hmix : cfg.P.follows .mixedOrders = true) (fuel : Nat) : CodeSound cfg (codeStep cfg e K fuel) := by
  intro c E0 w0 G F F' a w x n ro Q hns h hok hr hQ
  cases c <;> simp only [codeStep] at hr <;> first | (cases hr; done) | skip
  case skip => cases hr; exact wpIn_skip (hQ G a w h)
  case label l => cases hr; exact wpIn_label (hQ G a w h)
  case seq p q =>
    simp only [codeOk, Bool.and_eq_true] at hok
    obtain ⟨⟨y, F1⟩, h1, h2⟩ := Option.bind_eq_some_iff.1 hr
    refine wpIn_seq (he p (noScope_and hns).1 h hok.1 h1 fun G' a' w' h' => ?_)
    cases y with
    | normal => exact he q (noScope_and hns).2 h' hok.2 h2 hQ
    | exit id => cases h2; exact hQ G' a' w' h'
    | goto l => cases h2; exact hQ G' a' w' h'
    | ret => cases h2; exact hQ G' a' w' h'
  case cond o p q =>
    simp only [codeOk, Bool.and_eq_true] at hok
    split at hr
    · rename_i t ht
      have hv := (opd h o).rv
      rw [ht] at hv
      have hv : R1 G.S G.E (.at (.bool t)) (a.eval o) := hv
      have hc : a.eval o = .bool t := by
        generalize a.eval o = z at hv
        cases hv; rfl
      refine wpIn_cond hc ?_
      cases t with
      | true => exact he p (noScope_and hns).1 h hok.1 hr hQ
      | false => exact he q (noScope_and hns).2 h hok.2 hr hQ
    · cases hr
  case block id b =>
    simp only [Option.map_eq_some_iff] at hr
    obtain ⟨⟨y, F1⟩, h1, h2⟩ := hr
    refine wpIn_block (he b hns h hok h1 fun G' a' w' h' => ?_)
    by_cases hy : y = .exit id
    · subst hy
      simp only [if_true] at h2
      cases h2
      simp only [X.exit', Exit.inBlock, if_true]
      exact hQ G' a' w' h'
    · rw [if_neg hy] at h2
      cases h2
      cases x with
      | normal => exact hQ G' a' w' h'
      | exit id' =>
        have : id' ≠ id := fun e => hy (by rw [e])
        simp only [X.exit', Exit.inBlock, this, if_false]
        exact hQ G' a' w' h'
      | goto l => exact hQ G' a' w' h'
      | ret => exact hQ G' a' w' h'
  case loop b => exact wpIn_loop_rounds fuel (loop_sound he b hns hok hQ fuel h hr)
  case exit id => cases hr; exact wpIn_exit (hQ G a w h)
  case goto l => cases hr; exact wpIn_goto (hQ G a w h)
  case ret => cases hr; exact wpIn_ret (hQ G a w h)
  case region id ops draw =>
    refine region_sound hs hmix h (fun m hm => hm) hok hr fun G' a' w' hx h' => ?_
    have := hQ G' a' w' h'
    rw [hx] at this
    exact this
  case scope b =>
    have hokb : codeOk b = true := hok
    obtain ⟨⟨y, F1⟩, h1, h2⟩ := Option.bind_eq_some_iff.1 hr
    have hro : ro = none := by rcases hns with h | h; exact h; cases h
    subst hro
    have hfx : Fx none = Fence.wide := rfl
    rw [hfx, wpIn_wide]
    cases y with
    | goto l =>
      simp only at h2
      split at h2
      · rename_i rest hf
        obtain ⟨⟨z, F2⟩, h3, h4⟩ := Option.bind_eq_some_iff.1 h2
        have hokr := codeOk_label b hokb hf
        refine wp_scope_jumps l (fun a' w' => ∃ G', Inv E0 w0 (fun m => m < F1.c) G' F1 a' w') (fun _ _ => 0) hf ?_ ?_
        · rw [← wpIn_wide (n := n), ← hfx]
          exact he b (.inl rfl) h hokb h1 fun G' a' w' h' => ⟨rfl, G', h'⟩
        · rintro a' w' ⟨G', h'⟩
          rw [← wpIn_wide (n := n), ← hfx]
          refine he rest (.inl rfl) h' hokr h3 fun G' a' w' h' => ?_
          cases z with
          | normal => cases h4; exact hQ G' a' w' h'
          | exit id => cases h4; exact hQ G' a' w' h'
          | goto l => cases h4
          | ret => cases h4; exact hQ G' a' w' h'
      · cases h2
    | normal =>
      cases h2
      refine wp_scope_straight ?_
      rw [← wpIn_wide (n := n), ← hfx]
      exact he b (.inl rfl) h hokb h1 fun G' a' w' h' => hQ G' a' w' h'
    | exit id =>
      cases h2
      refine wp_scope_straight ?_
      rw [← wpIn_wide (n := n), ← hfx]
      exact he b (.inl rfl) h hokb h1 fun G' a' w' h' => hQ G' a' w' h'
    | ret =>
      cases h2
      refine wp_scope_straight ?_
      rw [← wpIn_wide (n := n), ← hfx]
      exact he b (.inl rfl) h hokb h1 fun G' a' w' h' => hQ G' a' w' h'

/-! ### Leaving -/
theorem leave1_R1 {S : Addr → Option Value} {E : Nat → Option Nat} {al : Nat → Bool} {x : AV} {v : Value} (h : R1 S E x v) : R1 S E (leave1 al x).1 v := by
  cases h with
  | «at» v => exact .at v
  | nil own => cases own <;> simp only [leave1] <;> first | exact .nil _ | (split <;> exact .nil _)
  | slice rows own b off cap sz val hlen hsz hfull hpl h1 h2 =>
    cases own with
    | no => exact .slice rows .no b off cap sz val hlen hsz (by intro h; cases h) hpl h1 h2
    | full => exact .slice rows .full b off cap sz val hlen hsz hfull hpl h1 h2
    | fresh => exact .slice rows .no b off cap sz val hlen hsz (by intro h; cases h) hpl h1 h2
    | id n =>
      simp only [leave1]
      split
      · exact .slice rows .fresh b off cap sz val hlen hsz (by intro h; cases h) hpl h1 h2
      · exact .slice rows .no b off cap sz val hlen hsz (by intro h; cases h) hpl h1 h2
  | ref row off b o val hpl h1 h2 => exact .ref row off b o val hpl h1 h2
  | hp l off b h => exact .hp l off b h
  | fn f first captured fs cs hf hc h1 h2 => exact .fn f first captured fs cs hf hc h1 h2
  | agg cs vs hl hpl h => exact strip_R1 (.agg cs vs hl hpl h)
  | tup cs vs hl h => exact .tup cs vs hl h
  | ifc t x v h => exact .ifc t x v h
  | hs l off len cap sz b h => exact .hs l off len cap sz b h
theorem leave1_plain (al : Nat → Bool) (x : AV) : (leave1 al x).1.plain = x.plain := by
  unfold leave1
  split
  · split <;> rfl
  · rfl
  · rfl
  · rfl
theorem leave1_al (al : Nat → Bool) (x : AV) (n : Nat) : (leave1 al x).2 n = true → al n = true := by
  unfold leave1
  split
  · split
    · simp only [upd_apply]; split <;> simp
    · exact id
  · exact id
  · exact id
  · exact id
theorem leave1_fresh {al : Nat → Bool} {x : AV} {rows : List (List AV)} {nl : Bool} (h : (leave1 al x).1 = .slice rows nl .fresh) : ∃ n, x = .slice rows nl (.id n) ∧ al n = true ∧ (leave1 al x).2 n = false := by
  unfold leave1 at h ⊢
  split at h
  · split at h
    · rename_i n hn
      cases h
      exact ⟨n, rfl, hn, by simp [hn, upd_apply]⟩
    · cases h
  · cases h
  · cases h
  · rename_i h1 h2 h3
    have h : x = .slice rows nl .fresh := h
    exact (h2 _ _ h).elim
theorem leave1_noId {al : Nat → Bool} {x : AV} {rows : List (List AV)} {nl : Bool} {n : Nat} : (leave1 al x).1 ≠ .slice rows nl (.id n) := by
  intro h
  unfold leave1 at h
  split at h
  · split at h <;> cases h
  · cases h
  · cases h
  · rename_i h1 h2 h3
    exact h1 _ _ _ h

theorem leaveL_len : ∀ (l : List AV) (al : Nat → Bool), (leaveL al l).length = l.length
  | [], _ => rfl
  | x :: l, al => by simp [leaveL, leaveL_len l]
theorem leaveL_get : ∀ (l : List AV) (al : Nat → Bool) (j : Nat) (y : AV), (leaveL al l)[j]? = some y → ∃ al' x, l[j]? = some x ∧ y = (leave1 al' x).1 ∧ (∀ n, al' n = true → al n = true) ∧
    ∀ k z, k < j → (leaveL al l)[k]? = some z → ∀ rows nl, z = .slice rows nl .fresh → ∃ n, l[k]? = some (.slice rows nl (.id n)) ∧ al n = true ∧ al' n = false
  | [], al, j, y, h => by simp [leaveL] at h
  | x :: l, al, 0, y, h => by
    simp [leaveL] at h
    exact ⟨al, x, rfl, h.symm, fun n h => h, fun k z hk => by omega⟩
  | x :: l, al, j + 1, y, h => by
    simp only [leaveL, List.getElem?_cons_succ] at h
    obtain ⟨al', x', h1, h2, h3, h4⟩ := leaveL_get l _ j y h
    refine ⟨al', x', by simpa using h1, h2, fun n hn => leave1_al al x n (h3 n hn), fun k z hk hz rows nl he => ?_⟩
    cases k with
    | zero =>
      simp [leaveL] at hz
      obtain ⟨n, q1, q2, q3⟩ := leave1_fresh (hz.trans he)
      refine ⟨n, by simp [q1], q2, ?_⟩
      cases hb : al' n with
      | false => rfl
      | true => rw [h3 n hb] at q3; cases q3
    | succ k =>
      obtain ⟨n, q1, q2, q3⟩ := h4 k z (by omega) (by simpa [leaveL] using hz) rows nl he
      exact ⟨n, by simpa using q1, leave1_al al x n q2, q3⟩

/-- What becomes of each part. -/
theorem leaveR_get {r : AV} (hr : ∀ g cs, r ≠ .box g cs) (al : Nat → Bool) (j : Nat) (y : AV) (h : (parts (leaveR al r))[j]? = some y) : (∃ al' x, (parts r)[j]? = some x ∧ y = (leave1 al' x).1 ∧ (∀ n, al' n = true → al n = true) ∧
    ∀ k z, k < j → (parts (leaveR al r))[k]? = some z → ∀ rows nl, z = .slice rows nl .fresh → ∃ n, (parts r)[k]? = some (.slice rows nl (.id n)) ∧ al n = true ∧ al' n = false) := by
  cases r with
  | tup vs => exact leaveL_get vs al j y h
  | agg vs => exact leaveL_get vs al j y h
  | box g cs => exact (hr g cs rfl).elim
  | slice rows nl own =>
    have e : parts (leaveR al (.slice rows nl own)) = [(leave1 al (.slice rows nl own)).1] := by
      cases own <;> simp only [leaveR, leave1] <;> first | rfl | (split <;> rfl)
    rw [e] at h
    cases j with
    | zero =>
      simp at h
      exact ⟨al, _, rfl, h.symm, fun n h => h, fun k z hk => by omega⟩
    | succ j => simp at h
  | _ =>
    cases j with
    | zero =>
      simp [leaveR, leave1, parts] at h
      exact ⟨al, _, rfl, by simp [leave1, h], fun n h => h, fun k z hk => by omega⟩
    | succ j => simp [leaveR, leave1, parts] at h

theorem leaveR_R1 {S : Addr → Option Value} {E : Nat → Option Nat} {al : Nat → Bool} {r : AV} {v : Value} (h : R1 S E r v) : R1 S E (leaveR al r) v := by
  cases h with
  | agg cs vs hl hpl h =>
    refine .agg _ _ (by rw [leaveL_len]; exact hl) (fun x hx => ?_) (fun j x v hx hv => ?_)
    · obtain ⟨j, hj⟩ := List.getElem?_of_mem hx
      obtain ⟨al', y, h1, rfl, _⟩ := leaveL_get _ _ _ _ hj
      rw [leave1_plain]
      exact hpl y (List.mem_of_getElem? h1)
    · obtain ⟨al', y, h1, rfl, _⟩ := leaveL_get _ _ _ _ hx
      exact leave1_R1 (h j y v h1 hv)
  | tup cs vs hl h =>
    refine .tup _ _ (by rw [leaveL_len]; exact hl) (fun j x v hx hv => ?_)
    obtain ⟨al', y, h1, rfl, _⟩ := leaveL_get _ _ _ _ hx
    exact leave1_R1 (h j y v h1 hv)
  | «at» v => exact .at v
  | nil own => exact leave1_R1 (.nil own)
  | slice rows own b off cap sz val hlen hsz hfull hpl h1 h2 => exact leave1_R1 (.slice rows own b off cap sz val hlen hsz hfull hpl h1 h2)
  | ref row off b o val hpl h1 h2 => exact .ref row off b o val hpl h1 h2
  | hp l off b h => exact .hp l off b h
  | fn f first captured fs cs hf hc h1 h2 => exact .fn f first captured fs cs hf hc h1 h2
  | ifc t x v h => exact .ifc t x v h
  | hs l off len cap sz b h => exact .hs l off len cap sz b h

section
variable {E0 : Nat → Prop} {w0 : Ent} {Z : Nat → Prop} {G : Gh} {F : St} {a : Act} {w : World}

/-- What a function that ends hands over. -/
theorem leave_post {w₁ : World} {S : Addr → Option Value} {E : Nat → Option Nat} (h : Inv (fun b => ∃ l, E l = some b) { toWorld := w₁, S0 := S, Em := E } Z G F a w) {r : AV} {v : Value} (hr : R1 G.S G.E r v) (hc : Cl G F.al r v) :
    CPost w₁ S E (leaveR F.al r) F.H v G.S G.E (fun j => match (parts r)[j]? with
      | some (.slice _ _ (.id n)) => G.ρ n
      | _ => ⟨0, 0, 0, 0⟩) w where
  bel := h.bel
  sS := h.rel.1
  sN := fun ad h0 hb => h.rel.2.1 ad h0 hb id
  mem := h.mem
  eS := h.rel.2.2.1
  eN l b h0 hb := ⟨h.rel.2.2.2.1 l b h0 hb, (h.objE hb).2.2⟩
  eH := h.rel.2.2.2.2
  heap l cs hl := by
    obtain ⟨b, vs, h1, h2, h3, h4⟩ := h.obj l cs hl
    exact ⟨b, vs, h1, h4⟩
  inj l l' b h1 h2 := by
    have e1 := (h.objE h1).2.1
    have e2 := (h.objE h2).2.1
    rw [e1] at e2
    cases e2
    rfl
  rv := leaveR_R1 hr
  nid := by
    rintro n ⟨y, hy, rows, nl, rfl⟩
    obtain ⟨j, hj⟩ := List.getElem?_of_mem hy
    obtain ⟨al', x, h1, h2, _⟩ := leaveR_get hr.nobox _ _ _ hj
    exact leave1_noId h2.symm
  fresh j u rows nl hx hu := by
    obtain ⟨al', x, h1, h2, h3, _⟩ := leaveR_get hr.nobox _ _ _ hx
    obtain ⟨n, rfl, hn, _⟩ := leave1_fresh h2.symm
    have hal := h3 n hn
    obtain ⟨c1, c2, c3, c4⟩ := hc j _ u h1 hu rows nl n rfl hal
    obtain ⟨r1, r2, r3, r4, r5⟩ := h.row n hal
    simp only [h1]
    refine ⟨c1, c2, c3, c4, r1, r3, r4, r5, fun l hl => ?_⟩
    have := (h.objE hl).2.1
    rw [r2] at this
    cases this
  apart j j' rows nl rows' nl' hx hx' hb := by
    obtain ⟨al', x, h1, h2, h3, h4⟩ := leaveR_get hr.nobox _ _ _ hx
    obtain ⟨n, rfl, hn, _⟩ := leave1_fresh h2.symm
    obtain ⟨al'', x', h1', h2', h3', h4'⟩ := leaveR_get hr.nobox _ _ _ hx'
    obtain ⟨n', rfl, hn', _⟩ := leave1_fresh h2'.symm
    simp only [h1, h1'] at hb
    have e1 := (h.row n (h3 n hn)).2.1
    have e2 := (h.row n' (h3' n' hn')).2.1
    rw [hb, e2] at e1
    cases e1
    rcases Nat.lt_trichotomy j j' with hlt | heq | hgt
    · obtain ⟨m, m1, m2, m3⟩ := h4' j _ hlt hx rows nl rfl
      rw [h1] at m1
      cases m1
      rw [hn'] at m3
      cases m3
    · exact heq
    · obtain ⟨m, m1, m2, m3⟩ := h4 j' _ hgt hx' rows' nl' rfl
      rw [h1'] at m1
      cases m1
      rw [hn] at m3
      cases m3

def resM (tmps : Array Value) : ResultVar → Sem Value
  | .tmp t => pure (tmps.getD t Go.undef)
  | .cell b t => do loadVar t (← asAddr (tmps.getD b Go.undef))
/-- One result variable. -/
theorem resultA_sound {P : Program} (h : Inv E0 w0 Z G F a w) {rv : ResultVar} {x : AV} (hr : resultA P F rv = some x) : ∃ v, (resM a.tmps rv).run P w = .ok v w ∧ Opd G F Z x v := by
  cases rv with
  | tmp t =>
    simp only [resultA] at hr
    split at hr
    · cases hr
      exact ⟨_, rfl, opd h (.tmp t)⟩
    · cases hr
  | cell b t =>
    simp only [resultA] at hr
    split at hr
    · rename_i row off n g h1 h2 h3
      split at hr
      · simp only [Option.map_eq_some_iff] at hr
        obtain ⟨y, hy, rfl⟩ := hr
        obtain ⟨ad, v, e1, e2, e3⟩ := q_loadO h (p := .tmp b) (show F.look [] (F.ev (.tmp b)) = some (row, off) from h1) h2 h3 hy
        refine ⟨v, ?_, e3⟩
        have e1 : a.tmps.getD b Go.undef = .pointer (some ad) := e1
        simp only [resM, e1, asAddr, Sem.run_bind, Sem.run_pure, Result.andThen_ok, e2]
      · cases hr
    · cases hr
theorem resultsA_sound {P : Program} (h : Inv E0 w0 Z G F a w) : ∀ {l : List ResultVar} {xs : List AV}, resultsA P F l = some xs → ∃ vs, (l.mapM (resM a.tmps)).run P w = .ok vs w ∧ All2 (Opd G F Z) xs vs
  | [], xs, hr => by
    cases hr
    exact ⟨[], rfl, rfl, fun j x v hx => by simp at hx⟩
  | r :: l, xs, hr => by
    simp only [resultsA] at hr
    obtain ⟨x, h1, h2⟩ := Option.bind_eq_some_iff.1 hr
    simp only [Option.map_eq_some_iff] at h2
    obtain ⟨ys, h2, rfl⟩ := h2
    obtain ⟨v, e1, e2⟩ := resultA_sound h h1
    obtain ⟨vs, e3, e4⟩ := resultsA_sound h h2
    refine ⟨v :: vs, ?_, by simp [e4.1], fun j x v hx hv => ?_⟩
    · rw [List.mapM_cons]
      simp only [Sem.run_bind]
      rw [show Sem.run P _ w = .ok v w from e1]
      simp only [Result.andThen_ok, Sem.run_bind]
      rw [show Sem.run P _ w = .ok vs w from e3]
      rfl
    · cases j with
      | zero => simp at hx hv; subst hx; subst hv; exact e2
      | succ j => exact e4.2 j x v (by simpa using hx) (by simpa using hv)

theorem pack_sound {xs : List AV} {vs : List Value} (hfree : xs.all AV.free = true) (h : All2 (Opd G F Z) xs vs) {v : Value} (hv : v = if h : vs.toArray.size = 1 then vs.toArray[0] else .tuple vs.toArray) : R1 G.S G.E (packA xs) v ∧ Cl G F.al (packA xs) v := by
  have hf := List.all_eq_true.1 hfree
  rcases xs with _ | ⟨x, _ | ⟨y, xs⟩⟩
  · have hl := h.1
    simp at hl
    subst hl
    simp at hv
    subst hv
    exact ⟨.tup [] [] rfl fun j x v hx => by simp at hx, fun j y u hy => by simp [packA, parts] at hy⟩
  · have hl := h.1
    rcases vs with _ | ⟨u, _ | ⟨u', vs⟩⟩ <;> simp at hl
    simp at hv
    subst hv
    have := h.2 0 x v rfl rfl
    exact ⟨R1_of this.rv (hf x (by simp)), this.cl⟩
  · have hl := h.1
    have hne : ¬ vs.toArray.size = 1 := by simp [hl]
    rw [dif_neg hne] at hv
    subst hv
    refine ⟨.tup _ _ hl fun j z u hz hu => R1_of (h.2 j z u hz hu).rv (hf z (List.mem_of_getElem? hz)), ?_⟩
    intro j z u hz hu
    have hz : (x :: y :: xs)[j]? = some z := hz
    have hu : vs[j]? = some u := by simpa [vparts] using hu
    have o := h.2 j z u hz hu
    intro rows nl n he ha
    subst he
    have hvp : vparts u = [u] := by
      have := o.rv
      have this : R1 G.S G.E (.slice rows nl (.id n)) u := this
      cases this <;> rfl
    exact o.cl 0 _ u rfl (by rw [hvp]; rfl) rows nl n rfl ha
end

open Classical in
/-- What is known where a heap is frozen. -/
noncomputable def frozen (G : Gh) (w : World) : Addr → Option Value := fun ad => if ∃ l, G.E l = some ad.block then (if ad.spot.isNone then w.cell? ad else none) else G.S ad

section
variable {E0 : Nat → Prop} {w0 : Ent} {Z : Nat → Prop} {G : Gh} {F : St} {a : Act} {w : World}
theorem frozen_S (h : Inv E0 w0 Z G F a w) : ∀ ad v, G.S ad = some v → frozen G w ad = some v := by
  intro ad v hv
  unfold frozen
  rw [if_neg]
  · exact hv
  · rintro ⟨l, hl⟩
    obtain ⟨b', vs, h1, h2, h3, _, _, _, _, h4⟩ := h.obj l (F.H[l]'(h.rel.2.2.2.2 l _ hl)) (List.getElem?_eq_getElem _)
    rw [hl] at h1
    cases h1
    rw [h4 ad rfl] at hv
    cases hv
theorem freeze1_sound (h : Inv E0 w0 Z G F a w) {x y : AV} {v : Value} (hx : Opd G F Z x v) (hf : x.free = true) (hy : freeze1A F.H x = some y) (hn : nohp 9 y = true) : R1 (frozen G w) noE y v := by
  have base : ∀ {x : AV} {v : Value} {d : Nat}, R1 G.S G.E x v → nohp d x = true → R1 (frozen G w) noE x v := fun hr hn => R1.mono (frozen_S h) (fun l b h => h) (nohp_R1 _ hn hr)
  unfold freeze1A at hy
  split at hy
  · rename_i loc off len cap sz
    obtain ⟨cells, hcells, hy⟩ := Option.bind_eq_some_iff.1 hy
    split at hy
    · cases hy
    · rename_i hlc
      simp only [Option.map_eq_some_iff] at hy
      obtain ⟨rows, hrows, rfl⟩ := hy
      obtain ⟨q1, q2, q3, q4⟩ := rowsOf_cell hrows
      obtain ⟨b', vs, g1, _, _, ⟨⟨ty, hheap⟩, hvs, hpl, hR, _⟩⟩ := h.obj loc cells hcells
      have hr : R1 G.S G.E (.hs loc off len cap sz) v := hx.rv
      cases hr with
      | hs _ _ _ _ _ b hb =>
        have hbb : b' = b := by rw [hb] at g1; exact (Option.some.inj g1).symm
        subst hbb
        simp only [nohp, List.all_eq_true] at hn
        have hex : ∃ l, G.E l = some b' := ⟨loc, hb⟩
        have key := R1.slice (S := frozen G w) (E := noE) rows .no b' off cap sz (fun i j => vs.getD (off + (i * sz + j)) Go.undef) (by omega) q3 (by intro h; cases h) (fun i j x hx => hpl x (List.mem_of_getElem? (q4 i j x hx).2.2)) (fun i j x hx => by
            obtain ⟨k1, k2, k3⟩ := q4 i j x hx
            have hlt : off + (i * sz + j) < vs.size := by rw [hvs]; exact (List.getElem?_eq_some_iff.1 k3).1
            unfold frozen
            rw [if_pos hex]
            simp [World.cell?, hheap, Array.getD, hlt]) (fun i j x hx => by
            obtain ⟨k1, k2, k3⟩ := q4 i j x hx
            have hlt : off + (i * sz + j) < vs.size := by rw [hvs]; exact (List.getElem?_eq_some_iff.1 k3).1
            have h1 := hR _ _ (vs.getD (off + (i * sz + j)) Go.undef) k3 (by simp [Array.getD, hlt])
            unfold cellAt at hx
            obtain ⟨r, e1, e2⟩ := Option.bind_eq_some_iff.1 hx
            exact base h1 (hn r (List.mem_of_getElem? e1) x (List.mem_of_getElem? e2)))
        rw [q2] at key
        exact key
  · cases hy
    exact base (R1_of hx.rv hf) hn
theorem freezeA_sound (h : Inv E0 w0 Z G F a w) : ∀ {xs ys : List AV} {vs : List Value}, All2 (Opd G F Z) xs vs → freezeA F.H xs = some ys → ys.all (nohp 9) = true → (∀ x ∈ xs, x.free = true) → All2 (R1 (frozen G w) noE) ys vs
  | [], ys, vs, h2, hy, _, _ => by
    cases hy
    have := h2.1
    simp at this
    subst this
    exact ⟨rfl, fun j x v hx => by simp at hx⟩
  | x :: xs, ys, [], h2, hy, _, _ => by have := h2.1; simp at this
  | x :: xs, ys, v :: vs, h2, hy, hn, hfree => by
    simp only [freezeA] at hy
    obtain ⟨y, e1, e2⟩ := Option.bind_eq_some_iff.1 hy
    simp only [Option.map_eq_some_iff] at e2
    obtain ⟨ys', e2, rfl⟩ := e2
    simp only [List.all_cons, Bool.and_eq_true] at hn
    have hl := h2.1
    simp at hl
    have r1 := freeze1_sound h (h2.2 0 x v rfl rfl) (hfree x (by simp)) e1 hn.1
    have r2 := freezeA_sound h (vs := vs) ⟨hl, fun j x v hx hv => h2.2 (j + 1) x v (by simpa using hx) (by simpa using hv)⟩ e2 hn.2 fun x hx => hfree x (by simp [hx])
    refine ⟨by simp [r2.1], fun j z u hz hu => ?_⟩
    cases j with
    | zero => simp at hz hu; subst hz; subst hu; exact r1
    | succ j => exact r2.2 j z u (by simpa using hz) (by simpa using hu)
theorem freezeA_free {H : List (List AV)} : ∀ {xs ys : List AV}, freezeA H xs = some ys → (∀ y ∈ ys, y.free = true) → ∀ x ∈ xs, x.free = true
  | [], _, _, _ => fun x hx => by simp at hx
  | x :: xs, ys, hy, hf => by
    simp only [freezeA] at hy
    obtain ⟨y, e1, e2⟩ := Option.bind_eq_some_iff.1 hy
    simp only [Option.map_eq_some_iff] at e2
    obtain ⟨ys', e2, rfl⟩ := e2
    intro z hz
    rcases List.mem_cons.1 hz with rfl | hz
    · unfold freeze1A at e1
      split at e1
      · rfl
      · cases e1; exact hf _ (by simp)
    · exact freezeA_free e2 (fun y hy => hf y (by simp [hy])) z hz
theorem pack_R1 {S : Addr → Option Value} {E : Nat → Option Nat} {xs : List AV} {vs : List Value} (h : All2 (R1 S E) xs vs) {v : Value} (hv : v = if h : vs.toArray.size = 1 then vs.toArray[0] else .tuple vs.toArray) : R1 S E (packA xs) v := by
  rcases xs with _ | ⟨x, _ | ⟨y, xs⟩⟩
  · have hl := h.1
    simp at hl
    subst hl
    simp at hv
    subst hv
    exact .tup [] [] rfl fun j x v hx => by simp at hx
  · have hl := h.1
    rcases vs with _ | ⟨u, _ | ⟨u', vs⟩⟩ <;> simp at hl
    simp at hv
    subst hv
    exact h.2 0 x v rfl rfl
  · have hl := h.1
    have hne : ¬ vs.toArray.size = 1 := by simp [hl]
    rw [dif_neg hne] at hv
    subst hv
    exact .tup _ _ hl h.2
end
theorem freeze_post {w₁ w : World} {S : Addr → Option Value} {Z : Nat → Prop} {G : Gh} {F : St} {a : Act} (h : Inv (fun b => ∃ l, noE l = some b) { toWorld := w₁, S0 := S, Em := noE } Z G F a w) {r : AV} {v : Value} (hr : R1 (frozen G w) noE r v) :
    CPost w₁ S noE (leaveR (fun _ => false) r) [] v (frozen G w) noE (fun _ => ⟨0, 0, 0, 0⟩) w where
  bel := h.bel
  sS ad u hu := frozen_S h ad u (h.rel.1 ad u hu)
  sN ad h0 hb := by
    unfold frozen
    rw [if_neg]
    · exact h.rel.2.1 ad h0 hb id
    · rintro ⟨l, hl⟩
      have h1 : w₁.heap.size ≤ ad.block := h.rel.2.2.2.1 l _ rfl hl
      omega
  mem ad u hu := by
    unfold frozen at hu
    split at hu
    · split at hu
      · exact hu
      · cases hu
    · exact h.mem ad u hu
  eS l b hb := by cases hb
  eN l b _ hb := by cases hb
  eH l b hb := by cases hb
  heap l cs hl := by simp at hl
  inj l l' b hb := by cases hb
  rv := leaveR_R1 hr
  nid := by
    rintro n ⟨y, hy, rows, nl, rfl⟩
    obtain ⟨j, hj⟩ := List.getElem?_of_mem hy
    obtain ⟨al', x, h1, h2, _⟩ := leaveR_get hr.nobox _ _ _ hj
    exact leave1_noId h2.symm
  fresh j u rows nl hx hu := by
    obtain ⟨al', x, h1, h2, h3, _⟩ := leaveR_get hr.nobox _ _ _ hx
    obtain ⟨n, _, hn, _⟩ := leave1_fresh h2.symm
    have := h3 n hn
    cases this
  apart j j' rows nl rows' nl' hx := by
    obtain ⟨al', x, h1, h2, h3, _⟩ := leaveR_get hr.nobox _ _ _ hx
    obtain ⟨n, _, hn, _⟩ := leave1_fresh h2.symm
    have := h3 n hn
    cases this

open Classical in
theorem inv_enter {w : World} {S : Addr → Option Value} {E : Nat → Option Nat} {H : List (List AV)} (hp : HPre w S E H) {as : List AV} {vs : List Value} (hni : ∀ x ∈ as, NoId x) (hl : vs.length = as.length) (hR : ∀ (j : Nat) (x : AV) (v : Value), as[j]? = some x → vs[j]? = some v → R1 S E x v) {n : Nat} {m : TypeId → Bool} (hn : as.length ≤ n) :
    Inv (fun b => ∃ l, E l = some b) { toWorld := w, S0 := S, Em := E } (fun m => m < 0) { S := S, B := fun _ => none, E := E, u := fun b => if h : ∃ l, E l = some b then some (.obj h.choose) else none, ρ := fun _ => ⟨0, 0, 0, 0⟩ }
      { n := n, t := argAt as, c := 0, al := fun _ => false, H := H, m := m } { tmps := vs.toArray ++ Array.replicate (n - vs.toArray.size) Go.undef, defers := [] } w := by
  have slot : ∀ i, R1 S E (argAt as i) ((vs.toArray ++ Array.replicate (n - vs.toArray.size) Go.undef).getD i Go.undef) ∧ NoId (argAt as i) := by
    intro i
    by_cases hi : i < as.length
    · have e1 : argAt as i = as[i] := by simp [argAt, hi]
      have e2 : (vs.toArray ++ Array.replicate (n - vs.toArray.size) Go.undef).getD i Go.undef = vs[i]'(by omega) := by
        rw [Array.getD_eq_getD_getElem?, Array.getElem?_append_left (by simp; omega)]
        simp [show i < vs.length by omega]
      rw [e1, e2]
      exact ⟨hR i _ _ (List.getElem?_eq_getElem hi) (List.getElem?_eq_getElem (by omega)), hni _ (List.getElem_mem hi)⟩
    · have e1 : argAt as i = und := by simp [argAt, List.getElem?_eq_none (by omega : as.length ≤ i)]
      have e2 : (vs.toArray ++ Array.replicate (n - vs.toArray.size) Go.undef).getD i Go.undef = Go.undef := by
        rw [Array.getD_eq_getD_getElem?, Array.getElem?_append_right (by simp; omega)]
        rw [Array.getElem?_replicate]
        split <;> rfl
      rw [e1, e2]
      exact ⟨.tup [] [] rfl fun j x v hx => by simp at hx, by rintro m ⟨y, hy, _⟩; simp [und, parts] at hy⟩
  have hobj : ∀ l b, E l = some b → ∃ vs cs, H[l]? = some cs ∧ Holds1 ⟨S, fun _ => none, E, fun _ => none, fun _ => ⟨0, 0, 0, 0⟩⟩ w b cs vs := by
    intro l b hb
    obtain ⟨b', vs, h1, h2⟩ := hp.heap l (H[l]'(hp.eH l b hb)) (List.getElem?_eq_getElem (hp.eH l b hb))
    rw [hb] at h1
    cases h1
    exact ⟨vs, _, List.getElem?_eq_getElem (hp.eH l b hb), h2⟩
  refine ⟨by simp; omega, rfl, fun i => RV_of (slot i).1, fun i _ j y u hy hu rows nl m he ha => (by cases ha), fun i m hm => ((slot i).2 m hm).elim, hp.mem, Bel.refl _ _, ⟨fun _ _ h => h, fun _ h _ _ => h, fun _ _ h => h, fun l b h0 hb => ?_, hp.eH⟩, fun i g cs hc => ((slot i).1.nobox g cs hc).elim,
    fun m hm => (by cases hm), fun l cs hl => ?_, fun g b hb => (by cases hb), fun m hm => (by cases hm), fun b hb => ?_, fun b o hb => (by cases hb), fun g b hb => (by cases hb)⟩
  · have h0 : E l = none := h0
    have hb : E l = some b := hb
    rw [h0] at hb
    cases hb
  · obtain ⟨b, vs, h1, h2⟩ := hp.heap l cs hl
    refine ⟨b, vs, h1, .inr ⟨l, h1⟩, ?_, h2⟩
    have hex : ∃ l, E l = some b := ⟨l, h1⟩
    show (if h : ∃ l, E l = some b then some (Tg.obj h.choose) else none) = _
    rw [dif_pos hex, hp.inj _ _ _ hex.choose_spec h1]
  · have hb : (if h : ∃ l, E l = some b then some (Tg.obj h.choose) else none).isSome = true := hb
    split at hb
    · rename_i hex
      obtain ⟨l, hl⟩ := hex
      obtain ⟨vs, cs, h1, ⟨ty, h2⟩, _⟩ := hobj l b hl
      rcases Nat.lt_or_ge b w.heap.size with h | h
      · exact h
      · rw [Array.getElem?_eq_none h] at h2; cases h2
    · cases hb

theorem callStep_sound {cfg : Cfg} {e : CF} (he : CodeSound cfg e) {g : Nat} {as : List AV} {H : List (List AV)} {r : AV} {H' : List (List AV)} (hr : callStep cfg e g as H = some (r, H')) : CSound cfg.P g as H r H' := by
  unfold callStep at hr
  split at hr
  · cases hr
  · rename_i fn hf
    split at hr
    · cases hr
    · rename_i c hb
      split at hr
      · rename_i hl
        obtain ⟨hl, hok, hname⟩ := hl
        obtain ⟨⟨x, F1⟩, h1, h2⟩ := Option.bind_eq_some_iff.1 hr
        intro w S E vs hp hni hlen hR
        refine .inr ⟨?_, fun n => ?_⟩
        · simp [callFunc, Sem.run_bind, hf, hb]
          intro hn
          simp [hn] at hname
        · refine callsIn_of_wp hf hb trivial ?_
          have h0 := inv_enter (m := cfg.heap g) hp hni hlen hR hl
          refine he c (ro := none) (.inl rfl) h0 hok h1 fun G' a' w' h' => ?_
          have fin : ∀ xs, resultsA cfg.P F1 fn.results.toList = some xs → (if cfg.frz g = true then (if H.isEmpty = true then (freezeA F1.H xs).bind fun vs' => if (vs'.all AV.free && vs'.all (nohp 9)) = true then some (leaveR (fun _ => false) (packA vs'), []) else none else none) else if xs.all AV.free = true then some (leaveR F1.al (packA xs), F1.H) else none) = some (r, H') → a'.defers = [] ∧ ∃ v, (results fn a'.tmps).run cfg.P w' = .ok v w' ∧ ∃ v', Ending.returned v = Ending.returned v' ∧ ∃ S' E' φ, CPost w S E r H' v' S' E' φ w' := by
            intro xs hxs hif
            have hres : ∀ vs' : List Value, (fn.results.toList.mapM (resM a'.tmps)).run cfg.P w' = .ok vs' w' → (results fn a'.tmps).run cfg.P w' = .ok (if h : vs'.toArray.size = 1 then vs'.toArray[0] else .tuple vs'.toArray) w' := by
              intro vs' e1
              rw [show results fn a'.tmps = (do
                  let vs ← fn.results.mapM (resM a'.tmps)
                  pure (if h : vs.size = 1 then vs[0] else .tuple vs)) from rfl]
              rw [Array.mapM_eq_mapM_toList]
              simp only [Sem.run_bind, Sem.run_map]
              rw [e1]
              rfl
            split at hif
            · split at hif
              · rename_i hH
                have hH0 : H = [] := by simpa using hH
                subst hH0
                have hE0 : E = noE := by
                  funext l
                  cases hl : E l with
                  | none => rfl
                  | some b => have := hp.eH l b hl; simp at this
                subst hE0
                obtain ⟨ys, hys, hif⟩ := Option.bind_eq_some_iff.1 hif
                split at hif
                · rename_i hc
                  simp only [Bool.and_eq_true] at hc
                  cases hif
                  refine ⟨h'.df, ?_⟩
                  obtain ⟨vs', e1, e2⟩ := resultsA_sound h' hxs
                  have hfree : ∀ x ∈ xs, x.free = true := freezeA_free hys (List.all_eq_true.1 hc.1)
                  exact ⟨_, hres vs' e1, _, rfl, _, _, _, freeze_post h' (pack_R1 (freezeA_sound h' e2 hys hc.2 hfree) rfl)⟩
                · cases hif
              · cases hif
            split at hif
            · rename_i hfree
              cases hif
              refine ⟨h'.df, ?_⟩
              obtain ⟨vs', e1, e2⟩ := resultsA_sound h' hxs
              refine ⟨if h : vs'.toArray.size = 1 then vs'.toArray[0] else .tuple vs'.toArray, ?_, _, rfl, ?_⟩
              · exact hres vs' e1
              · obtain ⟨p1, p2⟩ := pack_sound hfree e2 rfl
                exact ⟨_, _, _, leave_post h' p1 p2⟩
            · cases hif
          cases x with
          | normal =>
            simp only at h2
            obtain ⟨xs, q1, q2⟩ := Option.bind_eq_some_iff.1 h2
            exact fin xs q1 q2
          | ret =>
            simp only at h2
            obtain ⟨xs, q1, q2⟩ := Option.bind_eq_some_iff.1 h2
            exact fin xs q1 q2
          | exit id => cases h2
          | goto l => cases h2
      · cases hr

theorem evN_sound {cfg : Cfg} (hmix : cfg.P.follows .mixedOrders = true) (hx : ∀ g s as r, cfg.ext g = some s → s as = some r → CSound cfg.P g as [] r []) : ∀ m, CodeSound cfg (evN cfg m).1 ∧ Sound cfg (evN cfg m).2
  | 0 => ⟨fun c E0 w0 G F F' a w x n ro Q _ _ _ hr => (by cases hr), ⟨fun g as H r H' hk => (by cases hk), hx⟩⟩
  | m + 1 => by
    obtain ⟨h1, h2⟩ := evN_sound hmix hx m
    exact ⟨codeStep_sound h1 h2 hmix m, ⟨fun g as H r H' hk => callStep_sound h1 hk, hx⟩⟩

/-- **WHAT THE EVALUATOR SAYS OF A CALL HOLDS.** -/
theorem evK_sound {cfg : Cfg} (hmix : cfg.P.follows .mixedOrders = true) (hx : ∀ g s as r, cfg.ext g = some s → s as = some r → CSound cfg.P g as [] r []) {g : Nat} {as : List AV} {H : List (List AV)} {r : AV} {H' : List (List AV)} (h : evK cfg g as H = some (r, H')) : CSound cfg.P g as H r H' := by
  obtain ⟨n, hn⟩ := evK_some.1 h
  exact (evN_sound hmix hx n).2.k g as H r H' hn
end Go.Proofs.V
namespace Go.Proofs.V
open Go Go.RowKit
set_option linter.unusedVariables false
set_option linter.unusedSimpArgs false

theorem parts_absV_own (v : Value) : ∀ rows nl own, .slice rows nl own ∈ parts (absV v) → own = .full := by
  intro rows nl own h
  have h1 : ∀ v, .slice rows nl own = abs1 v → own = .full := by
    intro v h
    unfold abs1 at h
    split at h <;> cases h
    rfl
  unfold absV at h
  split at h
  · simp [parts] at h; exact h.2.2
  · split at h
    · simp only [parts] at h
      obtain ⟨u, _, hu⟩ := List.mem_map.1 h
      exact h1 u hu.symm
    · simp [parts] at h
  · split at h <;> simp [parts] at h
  · simp [parts] at h

/-- A callee that hands back a value without memory, and leaves the world alone. -/
theorem csound_value {P : Program} {g : Nat} {as : List AV} {us : List Value} {v : Value} (hv : vals as = some us) (hr : ∀ w, (callFunc g us.toArray).run P w = .ok (.value v) w) : CSound P g as [] (absV v) [] := by
  intro w S E vs hp hni hl hR
  have e := vals_R1 hv hl hR
  subst e
  refine .inl ⟨v, w, hr w, S, E, fun _ => ⟨0, 0, 0, 0⟩, ?_⟩
  refine ⟨Bel.refl _ _, fun _ _ h => h, fun _ h _ => h, hp.mem, fun _ _ h => h, fun l b h0 hb => ?_, hp.eH, fun l cs hl => by simp at hl, hp.inj, absV_R1 _ _ v, noId_absV v, fun j u rows nl hx hu => ?_, fun j j' rows nl rows' nl' hx => ?_⟩
  · rw [h0] at hb; cases hb
  · have := parts_absV_own v rows nl .fresh (List.mem_of_getElem? hx)
    cases this
  · have := parts_absV_own v rows nl .fresh (List.mem_of_getElem? hx)
    cases this

def extCount : List AV → Option AV
  | [.at (.string s), .at (.int .u8 c)] => some (I64 (Lib.countByte s.data.toList c.toNat.toUInt8))
  | _ => none
def extIndex : List AV → Option AV
  | [.at (.string s), .at (.int .u8 c)] => some (I64 (Lib.indexByte s.data.toList c.toNat.toUInt8))
  | _ => none
theorem extCount_sound {P : Program} {g : Nat} {fn : Func} (hf : P.funcs[g]? = some fn) (hname : (fn.name == "runtime.NumGoroutine") = false) (hb : fn.body.isNone = true) (hn : Extern.findNext fn = none) (he : Extern.find fn = some Extern.BytealgCount.count) {as : List AV} {r : AV} (h : extCount as = some r) : CSound P g as [] r [] := by
  unfold extCount at h
  split at h
  · rename_i s c
    cases h
    refine csound_value (us := [.string s, .int .u8 c]) (v := .int .i64 (Lib.countByte s.data.toList c.toNat.toUInt8)) rfl (fun w => ?_)
    rw [run_callFunc_extern hf hname hb hn he]
    have := Lib.run_countString (P := P) s c w
    rw [show [Value.string s, Value.int .u8 c].toArray = #[Value.string s, Value.int .u8 c] from rfl, this]
    rfl
  · cases h
theorem extIndex_sound {P : Program} {g : Nat} {fn : Func} (hf : P.funcs[g]? = some fn) (hname : (fn.name == "runtime.NumGoroutine") = false) (hb : fn.body.isNone = true) (hn : Extern.findNext fn = none) (he : Extern.find fn = some Extern.BytealgIndexByte.indexByte) {as : List AV} {r : AV} (h : extIndex as = some r) : CSound P g as [] r [] := by
  unfold extIndex at h
  split at h
  · rename_i s c
    cases h
    refine csound_value (us := [.string s, .int .u8 c]) (v := .int .i64 (Lib.indexByte s.data.toList c.toNat.toUInt8)) rfl (fun w => ?_)
    rw [run_callFunc_extern hf hname hb hn he]
    have := Lib.run_indexByteString (P := P) s c w
    rw [show [Value.string s, Value.int .u8 c].toArray = #[Value.string s, Value.int .u8 c] from rfl, this]
    rfl
  · cases h

/-! ### What the kernel reckons -/
theorem evK_at {cfg : Cfg} (k : Nat) {g : Nat} {as : List AV} {H : List (List AV)} {r : AV × List (List AV)} (h : (evN cfg k).2 g as H = some r) : evK cfg g as H = some r := evK_some.2 ⟨k, h⟩
theorem callQ_at {cfg : Cfg} (k : Nat) {g : Nat} {as : List AV} {r : AV} (h : callQ cfg (evN cfg k).2 g as = some r) : callQ cfg (evK cfg) g as = some r := callQ_mono (evN_leK cfg k) h
theorem opsRun_at {cfg : Cfg} (k : Nat) {draw : Bool} {ds : List Nat} {all : Array Oper} {l : List Oper} {lab : Nat} {F F' : St} (h : opsRun cfg (evN cfg k).2 draw ds all l lab F = some F') : opsRun cfg (evK cfg) draw ds all l lab F = some F' := opsRun_mono (evN_leK cfg k) l lab F F' h
theorem opsRun_append {cfg : Cfg} {K : KF} {draw : Bool} {ds : List Nat} {all : Array Oper} : ∀ (l l' : List Oper) (lab : Nat) (F : St), opsRun cfg K draw ds all (l ++ l') lab F = (opsRun cfg K draw ds all l lab F).bind fun F' => opsRun cfg K draw ds all l' (lab + 64 * l.length) F'
  | [], l', lab, F => by simp [opsRun]
  | o :: l, l', lab, F => by
    simp only [List.cons_append, opsRun, List.length_cons]
    cases guardA all o F with
    | none => rfl
    | some b =>
      simp only [Option.bind_some]
      cases (if b = true then opRun cfg K draw ds lab o F else F.put o.dst und) with
      | none => rfl
      | some F1 =>
        simp only [Option.bind_some]
        rw [opsRun_append l l', show lab + 64 + 64 * l.length = lab + 64 * (l.length + 1) by omega]
/-- A stretch of operations that the kernel carries out. -/
theorem ow_run {cfg : Cfg} (k : Nat) {draw : Bool} {ds : List Nat} {all : Array Oper} {l rest : List Oper} {lab : Nat} {F : St} {Q : St → Prop} (hs : (opsRun cfg (evN cfg k).2 draw ds all l lab F).isSome = true)
    (h : Ow cfg draw ds all rest (lab + 64 * l.length) ((opsRun cfg (evN cfg k).2 draw ds all l lab F).get hs) Q) : Ow cfg draw ds all (l ++ rest) lab F Q := by
  obtain ⟨F', e, q⟩ := h
  refine ⟨F', ?_, q⟩
  rw [opsRun_append, opsRun_at k (F' := (opsRun cfg (evN cfg k).2 draw ds all l lab F).get hs) (by simp)]
  exact e
end Go.Proofs.V
namespace Go.Proofs.V
open Go Go.RowKit
set_option linter.unusedVariables false
set_option linter.unusedSimpArgs false

theorem upd_eta {α : Type} {t : Nat → α} {i : Nat} {x : α} (h : t i = x) : upd t i x = t := by
  funext k
  simp only [upd_apply]
  split
  · rename_i e; rw [e, h]
  · rfl

section
variable {cfg : Cfg} {F : St} {Q : St → Prop} {draw : Bool} {ds : List Nat} {all : Array Oper} {rest : List Oper} {lab : Nat} {type : TypeId} {pos : String} {after : Array Edge} {g : Option (Nat × Bool)} {d : Nat}

/-- A whole stretch, by the kernel. -/
theorem ow_all (k : Nat) {l : List Oper} (hs : (opsRun cfg (evN cfg k).2 draw ds all l lab F).isSome = true)
    (h : Q ((opsRun cfg (evN cfg k).2 draw ds all l lab F).get hs)) : Ow cfg draw ds all l lab F Q :=
  ⟨_, opsRun_at k (F' := (opsRun cfg (evN cfg k).2 draw ds all l lab F).get hs) (by simp), h⟩
/-- An operation that is passed over. -/
theorem ow_off {o : Oper} {F' : St} (hg : guardA all o F = some false) (hp : F.put o.dst und = some F') (h : Ow cfg draw ds all rest (lab + 64) F' Q) : Ow cfg draw ds all (o :: rest) lab F Q :=
  ow_cons (w := false) hg (fun h => by cases h) (fun _ => ⟨F', hp, h⟩)
/-- A quiet operation whose value is known. -/
theorem ow_val {op : Op} {v : AV} (hc : Op.calm op = true) (hg : guardA all { dst := some d, op, type, pos, after, guard := g } F = some true) (hA : (allocH cfg.P F op).isNone = true) (hq : quiet cfg.P F ds lab op = some v) (hd : Nat.blt d F.n = true)
    (h : Ow cfg draw ds all rest (lab + 64) { F with t := upd F.t d v } Q) : Ow cfg draw ds all ({ dst := some d, op, type, pos, after, guard := g } :: rest) lab F Q := by
  have hd' : d < F.n := by simpa using hd
  have hA' : allocH cfg.P F op = none := by simpa using hA
  refine ow_cons (w := true) hg (fun _ => ⟨_, ?_, h⟩) (fun h => by cases h)
  simp only [opRun, hA']
  cases op <;> first | (cases hc; done) | (simp only [opRunV, hq, Option.bind_some, St.put, hd', if_true])
class NotHs (x : AV) : Prop where
  h : isHs x = false
instance (r : List (List AV)) (n : Bool) (o : Own) : NotHs (.slice r n o) := ⟨rfl⟩
instance (v : Value) : NotHs (.at v) := ⟨rfl⟩
theorem appendB_of {draw : Bool} {ds : List Nat} {P : Program} {F : St} {lab : Nat} {t : TypeId} {s x : AV} {xt : Option TypeId} [hx : NotHs x] : appendB draw ds P F lab t s x xt = appendA P F lab t s x xt := by
  unfold appendB
  rw [hx.h]
  rfl
theorem ow_appendG {s x : Operand} {ty : TypeId} {ts : Array TypeId} {v S X : AV} [NotHs X] {al' : Nat → Bool} (ht : ts[0]? = some ty) (hg : guardA all { dst := some d, op := .call { callee := .builtin .append, args := #[s, x], argTypes := ts }, type, pos, after, guard := g } F = some true)
    (hs : F.ev s = S) (hx : F.ev x = X) (hv : appendA cfg.P F lab ty S X ts[1]? = some (v, al')) (hd : Nat.blt d F.n = true)
    (h : Ow cfg draw ds all rest (lab + 64) { F with t := upd F.t d v, al := al' } Q) : Ow cfg draw ds all ({ dst := some d, op := .call { callee := .builtin .append, args := #[s, x], argTypes := ts }, type, pos, after, guard := g } :: rest) lab F Q := by
  have hd' : d < F.n := by simpa using hd
  subst hs; subst hx
  exact ow_cons (w := true) hg (fun _ => ⟨_, by simp only [opRun, allocH, opRunV, appendB_of, ht, hv, Option.bind_some, St.putAl, St.put, hd', if_true], h⟩) (fun h => by cases h)
/-- A call that turns nothing. -/
theorem ow_callG {f : Operand} {args : Array Operand} {ts : Array TypeId} {k : Nat} {first captured xs : List AV} {r : AV} (hg : guardA all { dst := some d, op := .call { callee := .value f, args, argTypes := ts }, type, pos, after, guard := g } F = some true) (hf : F.ev f = .fn (.func k) first captured)
    (has : first ++ evs F args.toList ++ captured = xs) (ha : xs.all AV.free = true) (he : cfg.eff k = false) (hH : (F.H.isEmpty || (xs.map strip).all (nohp 9)) = true) (hr : callQ cfg (evK cfg) k (xs.map strip) = some r) (h64 : Nat.ble (sizeR r) 64 = true) (hd : Nat.blt d F.n = true)
    (h : Ow cfg false ds all rest (lab + 64) { F with t := upd F.t d (adoptR lab r), al := markR lab F.al r } Q) : Ow cfg false ds all ({ dst := some d, op := .call { callee := .value f, args, argTypes := ts }, type, pos, after, guard := g } :: rest) lab F Q := by
  have hd' : d < F.n := by simpa using hd
  have h64' : sizeR r ≤ 64 := by simpa using h64
  subst has
  exact ow_cons (w := true) hg (fun _ => ⟨_, by simp only [opRun, allocH, opRunV, hf, target, ha, he, hr, Bool.false_and, Bool.not_false, Bool.true_and, hH, h64', if_true, Bool.false_eq_true, if_false, Option.bind_some, St.putAl, St.put, hd'], h⟩) (fun h => by cases h)
theorem ow_callDG {f : Operand} {args : Array Operand} {ts : Array TypeId} {k : Nat} {first captured xs : List AV} {r : AV} (hg : guardA all { dst := some d, op := .call { callee := .value f, args, argTypes := ts }, type, pos, after, guard := g } F = some true) (hf : F.ev f = .fn (.func k) first captured)
    (has : first ++ evs F args.toList ++ captured = xs) (ha : xs.all AV.free = true) (he : cfg.eff k = false) (hH : ((!(true && blind ds) && F.H.isEmpty) || (xs.map strip).all (nohp 9)) = true) (hr : callQ cfg (evK cfg) k (xs.map strip) = some r) (hd : Nat.blt d F.n = true)
    (h : Ow cfg true ds all rest (lab + 64) { F with t := upd F.t d (strip r) } Q) : Ow cfg true ds all ({ dst := some d, op := .call { callee := .value f, args, argTypes := ts }, type, pos, after, guard := g } :: rest) lab F Q := by
  have hd' : d < F.n := by simpa using hd
  subst has
  exact ow_cons (w := true) hg (fun _ => ⟨_, by simp only [opRun, allocH, opRunV, hf, target, ha, he, hr, hH, if_true, Bool.false_eq_true, if_false, Option.bind_some, St.put, hd'], h⟩) (fun h => by cases h)
/-- A call that turns the heap. -/
theorem ow_callEG {f : Operand} {args : Array Operand} {ts : Array TypeId} {k : Nat} {first captured xs : List AV} {r : AV} {H' : List (List AV)} (hg : guardA all { dst := some d, op := .call { callee := .value f, args, argTypes := ts }, type, pos, after, guard := g } F = some true) (hf : F.ev f = .fn (.func k) first captured)
    (has : first ++ evs F args.toList ++ captured = xs) (ha : xs.all AV.free = true) (he : cfg.eff k = true) (hr : evK cfg k (xs.map strip) F.H = some (r, H')) (h64 : Nat.ble (sizeR r) 64 = true) (hd : Nat.blt d F.n = true)
    (h : Ow cfg false ds all rest (lab + 64) { F with t := upd F.t d (adoptR lab r), al := markR lab F.al r, H := H' } Q) : Ow cfg false ds all ({ dst := some d, op := .call { callee := .value f, args, argTypes := ts }, type, pos, after, guard := g } :: rest) lab F Q := by
  have hd' : d < F.n := by simpa using hd
  have h64' : sizeR r ≤ 64 := by simpa using h64
  subst has
  exact ow_cons (w := true) hg (fun _ => ⟨_, by simp only [opRun, allocH, opRunV, hf, target, ha, he, hr, h64', if_true, Bool.false_eq_true, if_false, Option.bind_some, St.putAl, St.put, hd'], h⟩) (fun h => by cases h)
end

section
variable {P : Program} {F : St} {lab : Nat} {t e : TypeId} {sz by_ : Nat} {x : AV} {xt : Option TypeId} {rows ys : List (List AV)} {z : List AV}
/-- An append to a slice without spare room. -/
theorem append_full (he : tel P t = some e) (hs : tsz P e = some sz) (hb : tby P e = some by_) (hx : srcRows P F xt x = some ys) (h1 : ∀ r ∈ rows, r.length = sz) (h2 : ∀ r ∈ ys, r.length = sz) (hpos : 0 < sz) (hlen : (rows.length + ys.length) * by_ ≤ 35184372088832) (hlen' : rows.length + ys.length ≤ 4611686018427387904) (hby : 0 < by_)
    (hz : tzero P e = some z) (hzl : z.length = sz) (hne : ys ≠ []) {nl : Bool} : appendA P F lab t (.slice rows nl .full) x xt = some (.slice (rows ++ ys) false (.id lab), upd F.al lab true) := by
  unfold appendA
  simp only [he, hs, hb, hx, hz]
  have h1' : (rows.all fun r => r.length == sz) = true := List.all_eq_true.2 fun r hr => by simp [h1 r hr]
  have h2' : (ys.all fun r => r.length == sz) = true := List.all_eq_true.2 fun r hr => by simp [h2 r hr]
  have h3 : ys.isEmpty = false := by cases ys <;> simp_all
  simp [h1', h2', hpos, hlen, hlen', hby, hzl, h3]
/-- An append to a row of the frame's own. -/
theorem append_id (he : tel P t = some e) (hs : tsz P e = some sz) (hb : tby P e = some by_) (hx : srcRows P F xt x = some ys) (h1 : ∀ r ∈ rows, r.length = sz) (h2 : ∀ r ∈ ys, r.length = sz) (hpos : 0 < sz) (hlen : (rows.length + ys.length) * by_ ≤ 35184372088832) (hlen' : rows.length + ys.length ≤ 4611686018427387904) (hby : 0 < by_)
    (hz : tzero P e = some z) (hzl : z.length = sz) (hne : ys ≠ []) {nl : Bool} {n : Nat} (hal : F.al n = true) : appendA P F lab t (.slice rows nl (.id n)) x xt = some (.slice (rows ++ ys) false (.id lab), upd (upd F.al n false) lab true) := by
  unfold appendA
  simp only [he, hs, hb, hx, hz]
  have h1' : (rows.all fun r => r.length == sz) = true := List.all_eq_true.2 fun r hr => by simp [h1 r hr]
  have h2' : (ys.all fun r => r.length == sz) = true := List.all_eq_true.2 fun r hr => by simp [h2 r hr]
  have h3 : ys.isEmpty = false := by cases ys <;> simp_all
  simp [h1', h2', hpos, hlen, hlen', hby, hzl, h3, hal]
end
end Go.Proofs.V
namespace Go.Proofs.V
open Go Go.RowKit
set_option linter.unusedVariables false
set_option linter.unusedSimpArgs false

/-- Slots that are known. -/
def updL : List (Nat × AV) → (Nat → AV) → Nat → AV
  | [], t => t
  | (i, v) :: r, t => upd (updL r t) i v
theorem updL_eta : ∀ (l : List (Nat × AV)) (t : Nat → AV), l.map (fun p => t p.1) = l.map (fun p => p.2) → updL l t = t
  | [], _, _ => rfl
  | (i, v) :: r, t, h => by
    simp only [List.map_cons, List.cons.injEq] at h
    simp only [updL]
    rw [updL_eta r t h.2]
    exact upd_eta h.1
/-- A state that is known at some slots. -/
def Is (n : Nat) (H : List (List AV)) (m : TypeId → Bool) (l : List (Nat × AV)) (F : St) : Prop := ∃ t c al, F = ⟨n, updL l t, c, al, H, m⟩
/-- The same; a mark is alive. -/
def IsO (n : Nat) (H : List (List AV)) (m : TypeId → Bool) (k : Nat) (l : List (Nat × AV)) (F : St) : Prop := ∃ t c al, F = ⟨n, updL l t, c, al, H, m⟩ ∧ al k = true
theorem is_of {n : Nat} {H : List (List AV)} {m : TypeId → Bool} {l : List (Nat × AV)} {F : St} (h : (F.n, F.H, F.m, l.map fun p => F.t p.1) = (n, H, m, l.map fun p => p.2)) : Is n H m l F := by
  simp only [Prod.mk.injEq] at h
  obtain ⟨rfl, rfl, rfl, h⟩ := h
  exact ⟨F.t, F.c, F.al, by rw [updL_eta l F.t h]⟩
theorem isO_of {n : Nat} {H : List (List AV)} {m : TypeId → Bool} {k : Nat} {l : List (Nat × AV)} {F : St} (h : (F.n, F.H, F.m, l.map fun p => F.t p.1) = (n, H, m, l.map fun p => p.2)) (hk : F.al k = true) : IsO n H m k l F := by
  simp only [Prod.mk.injEq] at h
  obtain ⟨rfl, rfl, rfl, h⟩ := h
  exact ⟨F.t, F.c, F.al, by rw [updL_eta l F.t h], hk⟩

/-! Numbers that are in range. -/
theorem wrapI {x : Int} (h0 : -9223372036854775808 ≤ x) (h1 : x < 9223372036854775808) : IntKind.i64.wrap x = x := IntWalk.i64_in x ⟨h0, by omega⟩
theorem wrapB {x : Int} (h0 : 0 ≤ x) (h1 : x < 256) : IntKind.u8.wrap x = x := IntWalk.u8_in x ⟨h0, by omega⟩
theorem succ64 {i : Nat} (h : i < 4611686018427387904) : IntKind.i64.wrap ((i : Int) + 1) = ((i + 1 : Nat) : Int) := by
  rw [wrapI (by omega) (by omega)]
  omega

section
variable {cfg : Cfg} {F : St} {Q : X → St → Prop} {b : Code} {id : Nat} {ops : Array Oper} {draw : Bool}
/-- A region, and what follows. -/
theorem aw_sr (h : Ow cfg draw (dsOf cfg ops draw) ops ops.toList F.c F (fun F' => Aw cfg b { F' with c := F.c + 64 * ops.size } Q)) : Aw cfg (.seq (.region id ops draw) b) F Q :=
  aw_seq (aw_region h)
/-- A region that the kernel carries out. -/
theorem aw_sk (k : Nat) (hs : (opsRun cfg (evN cfg k).2 draw (dsOf cfg ops draw) ops ops.toList F.c F).isSome = true)
    (h : Aw cfg b { (opsRun cfg (evN cfg k).2 draw (dsOf cfg ops draw) ops ops.toList F.c F).get hs with c := F.c + 64 * ops.size } Q) : Aw cfg (.seq (.region id ops draw) b) F Q :=
  aw_sr (ow_all k hs h)
theorem aw_rk (k : Nat) (hs : (opsRun cfg (evN cfg k).2 draw (dsOf cfg ops draw) ops ops.toList F.c F).isSome = true)
    (h : Q .normal { (opsRun cfg (evN cfg k).2 draw (dsOf cfg ops draw) ops ops.toList F.c F).get hs with c := F.c + 64 * ops.size }) : Aw cfg (.region id ops draw) F Q :=
  aw_region (ow_all k hs h)
theorem aw_sskip (h : Aw cfg b F Q) : Aw cfg (.seq .skip b) F Q := aw_seq (aw_skip h)
theorem aw_sret {c : Code} (h : Q .ret F) : Aw cfg (.seq .ret c) F Q := aw_seq (aw_ret h)
theorem aw_sexit {c : Code} {i : Nat} (h : Q (.exit i) F) : Aw cfg (.seq (.exit i) c) F Q := aw_seq (aw_exit h)
theorem aw_assoc {a c d : Code} (h : Aw cfg (.seq a (.seq c d)) F Q) : Aw cfg (.seq (.seq a c) d) F Q := by
  obtain ⟨x, F', e, q⟩ := h
  refine ⟨x, F', ?_, q⟩
  rw [← e]
  simp only [evC_seq]
  cases evC cfg a F with
  | none => rfl
  | some r =>
    obtain ⟨x, F1⟩ := r
    cases x <;> rfl
/-- A branch, and what follows. -/
theorem aw_sc {c : Operand} {p q : Code} (t : Bool) (hc : F.ev c = .at (.bool t)) (h1 : t = true → Aw cfg (.seq p b) F Q) (h2 : t = false → Aw cfg (.seq q b) F Q) : Aw cfg (.seq (.cond c p q) b) F Q := by
  refine aw_seq (aw_cond hc (fun h => ?_) (fun h => ?_))
  · obtain ⟨x, F', e, r⟩ := h1 h
    rw [evC_seq] at e
    cases ha : evC cfg p F with
    | none => rw [ha] at e; cases e
    | some y =>
      obtain ⟨z, F1⟩ := y
      refine ⟨z, F1, ha, ?_⟩
      rw [ha] at e
      cases z with
      | normal => exact ⟨x, F', e, r⟩
      | _ => cases e; exact r
  · obtain ⟨x, F', e, r⟩ := h2 h
    rw [evC_seq] at e
    cases ha : evC cfg q F with
    | none => rw [ha] at e; cases e
    | some y =>
      obtain ⟨z, F1⟩ := y
      refine ⟨z, F1, ha, ?_⟩
      rw [ha] at e
      cases z with
      | normal => exact ⟨x, F', e, r⟩
      | _ => cases e; exact r
/-- A loop of so many rounds. -/
theorem aw_for {body : Code} (N : Nat) (I : Nat → St → Prop) (h0 : I 0 F) (round : ∀ i F, i < N → I i F → Aw cfg body F (Then (I (i + 1)) Q)) (last : ∀ F, I N F → Aw cfg body F (Then (fun _ => False) Q)) : Aw cfg (.loop body) F Q := by
  have key : ∀ k i F, i + k = N → I i F → Aw cfg (.loop body) F Q := by
    intro k
    induction k with
    | zero =>
      intro i F hi hI
      obtain rfl : i = N := by omega
      refine aw_loop1 ((last F hI).mono fun x F' h => ?_)
      cases x with
      | normal => exact h.elim
      | _ => exact h
    | succ k ih =>
      intro i F hi hI
      refine aw_loop1 ((round i F (by omega) hI).mono fun x F' h => ?_)
      cases x with
      | normal => exact ih (i + 1) F' (by omega) h
      | _ => exact h
  exact key N 0 F (by omega) h0
/-- A loop in a block, and what follows: the loop is left by its block's exit. -/
theorem aw_sfor {body : Code} (N : Nat) (I : Nat → St → Prop) (h0 : I 0 F) (round : ∀ i F, i < N → I i F → Aw cfg body F (Then (I (i + 1)) (InBlock id (Then (fun F => Aw cfg b F Q) Q)))) (last : ∀ F, I N F → Aw cfg body F (Then (fun _ => False) (InBlock id (Then (fun F => Aw cfg b F Q) Q)))) : Aw cfg (.seq (.block id (.loop body)) b) F Q :=
  aw_seq (aw_block (aw_for N I h0 round last))
end

section
variable {cfg : Cfg} {F : St} {Q : St → Prop} {draw : Bool} {ds : List Nat} {all : Array Oper} {rest l : List Oper} {lab : Nat} {type : TypeId} {pos : String} {after : Array Edge} {g : Option (Nat × Bool)} {d : Nat}
/-- The first j operations, by the kernel. -/
theorem ow_k (j k : Nat) (hs : (opsRun cfg (evN cfg k).2 draw ds all (l.take j) lab F).isSome = true)
    (h : Ow cfg draw ds all (l.drop j) (lab + 64 * (l.take j).length) ((opsRun cfg (evN cfg k).2 draw ds all (l.take j) lab F).get hs) Q) : Ow cfg draw ds all l lab F Q := by
  have := ow_run (l := l.take j) (rest := l.drop j) k hs h
  rwa [List.take_append_drop] at this
/-- A truth value that is known to be this one. -/
theorem ow_is {op : Op} {x w : Bool} (hx : x = w) (hq : quiet cfg.P F ds lab op = some (.at (.bool x))) (hc : Op.calm op = true) (hg : guardA all { dst := some d, op, type, pos, after, guard := g } F = some true) (hA : (allocH cfg.P F op).isNone = true) (hd : Nat.blt d F.n = true)
    (h : Ow cfg draw ds all rest (lab + 64) { F with t := upd F.t d (.at (.bool w)) } Q) : Ow cfg draw ds all ({ dst := some d, op, type, pos, after, guard := g } :: rest) lab F Q := by
  subst hx
  exact ow_val hc hg hA hq hd h
/-- An address in a slice. -/
theorem ow_at {ty e : TypeId} {x i : Operand} {rows : List (List AV)} {nl : Bool} {own : Own} {row : List AV} {n : Int} (hr : rows[n.toNat]? = some row) (hn : 0 ≤ n) (hx : F.ev x = .slice rows nl own) (hi : F.ev i = .at (.int .i64 n)) (he : tel cfg.P ty = some e) (hz : tsz cfg.P e = some row.length) (hg : guardA all { dst := some d, op := .indexAddr ty x i, type, pos, after, guard := g } F = some true) (hd : Nat.blt d F.n = true)
    (h : Ow cfg draw ds all rest (lab + 64) { F with t := upd F.t d (.ref row 0) } Q) : Ow cfg draw ds all ({ dst := some d, op := .indexAddr ty x i, type, pos, after, guard := g } :: rest) lab F Q := by
  refine ow_val rfl hg rfl ?_ hd h
  simp only [quiet, hx, hi, indexAddrA, intOfA, he, hn, if_true, hr, hz]
end
end Go.Proofs.V
namespace Go.Proofs.V
open Go Go.RowKit
set_option linter.unusedVariables false
set_option linter.unusedSimpArgs false
/-- A mark that may be appended to. -/
def Fresh (al : Nat → Bool) (own : Own) : Prop := own = .full ∨ ∃ k, own = .id k ∧ al k = true
theorem append_own {P : Program} {F : St} {lab : Nat} {t e : TypeId} {sz by_ : Nat} {x : AV} {xt : Option TypeId} {rows ys : List (List AV)} {z : List AV} {own : Own} (hf : Fresh F.al own) (he : tel P t = some e) (hs : tsz P e = some sz) (hb : tby P e = some by_) (hx : srcRows P F xt x = some ys) (h1 : ∀ r ∈ rows, r.length = sz) (h2 : ∀ r ∈ ys, r.length = sz) (hpos : 0 < sz) (hlen : (rows.length + ys.length) * by_ ≤ 35184372088832) (hby : 0 < by_)
    (hz : tzero P e = some z) (hzl : z.length = sz) (hne : ys ≠ []) {nl : Bool} : ∃ al', appendA P F lab t (.slice rows nl own) x xt = some (.slice (rows ++ ys) false (.id lab), al') ∧ al' lab = true := by
  have hlen' : rows.length + ys.length ≤ 4611686018427387904 := by
    have := Nat.le_mul_of_pos_right (rows.length + ys.length) hby
    omega
  rcases hf with rfl | ⟨k, rfl, hk⟩
  · exact ⟨_, append_full he hs hb hx h1 h2 hpos hlen hlen' hby hz hzl hne, by simp [upd]⟩
  · exact ⟨_, append_id he hs hb hx h1 h2 hpos hlen hlen' hby hz hzl hne hk, by simp [upd]⟩
theorem leave_id {al : Nat → Bool} {rows : List (List AV)} {nl : Bool} {k : Nat} (h : al k = true) : leaveR al (.slice rows nl (.id k)) = .slice rows nl .fresh := by
  simp [leaveR, leave1, h]
theorem mark_self {al : Nat → Bool} {rows : List (List AV)} {nl : Bool} {lab : Nat} : markR lab al (.slice rows nl .fresh) lab = true := by
  simp [markR, freshR]
section
variable {cfg : Cfg} {F : St} {Q : St → Prop} {draw : Bool} {ds : List Nat} {all : Array Oper} {rest : List Oper} {lab : Nat} {type : TypeId} {pos : String} {after : Array Edge} {g : Option (Nat × Bool)} {d : Nat}
/-- An append to a row that is one's own. -/
theorem ow_app {s x : Operand} {ty e : TypeId} {ts : Array TypeId} {X : AV} [NotHs X] {sz by_ : Nat} {rows ys : List (List AV)} {z : List AV} {own : Own} {nl : Bool} (hf : Fresh F.al own) (hne : ys ≠ []) (h1 : ∀ r ∈ rows, r.length = sz) (h2 : ∀ r ∈ ys, r.length = sz) (hlen : (rows.length + ys.length) * by_ ≤ 35184372088832)
    (hs : F.ev s = .slice rows nl own) (hx : F.ev x = X) (hsx : srcRows cfg.P F ts[1]? X = some ys) (ht : ts[0]? = some ty) (he : tel cfg.P ty = some e) (hsz : tsz cfg.P e = some sz) (hb : tby cfg.P e = some by_) (hz : tzero cfg.P e = some z) (hzl : z.length = sz) (hpos : Nat.blt 0 sz = true) (hby : Nat.blt 0 by_ = true)
    (hg : guardA all { dst := some d, op := .call { callee := .builtin .append, args := #[s, x], argTypes := ts }, type, pos, after, guard := g } F = some true) (hd : Nat.blt d F.n = true)
    (h : ∀ al' : Nat → Bool, al' lab = true → Ow cfg draw ds all rest (lab + 64) { F with t := upd F.t d (.slice (rows ++ ys) false (.id lab)), al := al' } Q) : Ow cfg draw ds all ({ dst := some d, op := .call { callee := .builtin .append, args := #[s, x], argTypes := ts }, type, pos, after, guard := g } :: rest) lab F Q := by
  have hpos' : 0 < sz := by simpa using hpos
  have hby' : 0 < by_ := by simpa using hby
  obtain ⟨al', hv, hal⟩ := append_own (P := cfg.P) (F := F) (lab := lab) (t := ty) (x := X) (xt := ts[1]?) (nl := nl) hf he hsz hb hsx h1 h2 hpos' hlen hby' hz hzl hne
  exact ow_appendG ht hg hs hx hv hd (h al' hal)
end
end Go.Proofs.V
namespace Go.Proofs.V
open Go Go.RowKit
set_option linter.unusedVariables false
/-- A state that is known at some slots, and at one of them has a row of its own. -/
def IsF (n : Nat) (H : List (List AV)) (m : TypeId → Bool) (j : Nat) (rows : List (List AV)) (l : List (Nat × AV)) (F : St) : Prop := ∃ t c al o nl, F = ⟨n, upd (updL l t) j (.slice rows nl o), c, al, H, m⟩ ∧ Fresh al o
theorem isF_of {n : Nat} {H : List (List AV)} {m : TypeId → Bool} {j : Nat} {rows rows' : List (List AV)} {o : Own} {nl : Bool} {l : List (Nat × AV)} {F : St} (h : (F.n, F.H, F.m, F.t j, l.map fun p => F.t p.1) = (n, H, m, .slice rows' nl o, l.map fun p => p.2)) (hr : rows' = rows) (ho : Fresh F.al o) : IsF n H m j rows l F := by
  simp only [Prod.mk.injEq] at h
  obtain ⟨rfl, rfl, rfl, h0, h⟩ := h
  subst hr
  exact ⟨F.t, F.c, F.al, o, nl, by rw [updL_eta l F.t h, upd_eta h0], ho⟩
theorem fresh_id {al : Nat → Bool} {k : Nat} (h : al k = true) : Fresh al (.id k) := .inr ⟨k, rfl, h⟩
theorem fresh_full {al : Nat → Bool} : Fresh al .full := .inl rfl
end Go.Proofs.V
namespace Go.Proofs.V
open Go Go.RowKit
set_option linter.unusedVariables false
/-- The same, with a row that is marked. -/
def IsD (n : Nat) (H : List (List AV)) (m : TypeId → Bool) (j : Nat) (rows : List (List AV)) (l : List (Nat × AV)) (F : St) : Prop := ∃ t c al k, F = ⟨n, upd (updL l t) j (.slice rows false (.id k)), c, al, H, m⟩ ∧ al k = true
theorem isD_of {n : Nat} {H : List (List AV)} {m : TypeId → Bool} {j k : Nat} {rows rows' : List (List AV)} {l : List (Nat × AV)} {F : St} (h : (F.n, F.H, F.m, F.t j, l.map fun p => F.t p.1) = (n, H, m, .slice rows' false (.id k), l.map fun p => p.2)) (hr : rows' = rows) (ho : F.al k = true) : IsD n H m j rows l F := by
  simp only [Prod.mk.injEq] at h
  obtain ⟨rfl, rfl, rfl, h0, h⟩ := h
  subst hr
  exact ⟨F.t, F.c, F.al, k, by rw [updL_eta l F.t h, upd_eta h0], ho⟩
end Go.Proofs.V
namespace Go.Proofs.V
open Go Go.RowKit
set_option linter.unusedVariables false
set_option linter.unusedSimpArgs false
theorem append_none {P : Program} {F : St} {lab : Nat} {t e : TypeId} {sz by_ : Nat} {x : AV} {xt : Option TypeId} {rows : List (List AV)} {z : List AV} {own : Own} (hf : Fresh F.al own) (he : tel P t = some e) (hs : tsz P e = some sz) (hb : tby P e = some by_) (hx : srcRows P F xt x = some []) (h1 : ∀ r ∈ rows, r.length = sz) (hpos : 0 < sz) (hlen : rows.length * by_ ≤ 35184372088832) (hby : 0 < by_)
    (hz : tzero P e = some z) (hzl : z.length = sz) {nl : Bool} : appendA P F lab t (.slice rows nl own) x xt = some (.slice rows nl own, F.al) := by
  have hlen' : rows.length ≤ 4611686018427387904 := by
    have := Nat.le_mul_of_pos_right rows.length hby
    omega
  unfold appendA
  simp only [he, hs, hb, hx, hz]
  have h1' : (rows.all fun r => r.length == sz) = true := List.all_eq_true.2 fun r hr => by simp [h1 r hr]
  rcases hf with rfl | ⟨k, rfl, hk⟩ <;> simp_all
section
variable {cfg : Cfg} {F : St} {Q : St → Prop} {draw : Bool} {ds : List Nat} {all : Array Oper} {rest : List Oper} {lab : Nat} {type : TypeId} {pos : String} {after : Array Edge} {g : Option (Nat × Bool)} {d : Nat}
theorem ow_app0 {s x : Operand} {ty e : TypeId} {ts : Array TypeId} {X : AV} [NotHs X] {sz by_ : Nat} {rows : List (List AV)} {z : List AV} {own : Own} {nl : Bool} (hf : Fresh F.al own) (h1 : ∀ r ∈ rows, r.length = sz) (hlen : rows.length * by_ ≤ 35184372088832)
    (hs : F.ev s = .slice rows nl own) (hx : F.ev x = X) (hsx : srcRows cfg.P F ts[1]? X = some []) (ht : ts[0]? = some ty) (he : tel cfg.P ty = some e) (hsz : tsz cfg.P e = some sz) (hb : tby cfg.P e = some by_) (hz : tzero cfg.P e = some z) (hzl : z.length = sz) (hpos : Nat.blt 0 sz = true) (hby : Nat.blt 0 by_ = true)
    (hg : guardA all { dst := some d, op := .call { callee := .builtin .append, args := #[s, x], argTypes := ts }, type, pos, after, guard := g } F = some true) (hd : Nat.blt d F.n = true)
    (h : Ow cfg draw ds all rest (lab + 64) { F with t := upd F.t d (.slice rows nl own) } Q) : Ow cfg draw ds all ({ dst := some d, op := .call { callee := .builtin .append, args := #[s, x], argTypes := ts }, type, pos, after, guard := g } :: rest) lab F Q := by
  have hpos' : 0 < sz := by simpa using hpos
  have hby' : 0 < by_ := by simpa using hby
  exact ow_appendG ht hg hs hx (append_none hf he hsz hb hsx h1 hpos' hlen hby' hz hzl) hd h
/-- A part of a string. -/
theorem ow_substr {ty : TypeId} {x : Operand} {lo hi : Option Operand} {bs : List UInt8} {l u : Int} (h0 : 0 ≤ l) (h1 : l ≤ u) (h2 : u ≤ bs.length) (hx : F.ev x = ST bs) (hlo : bnd 0 (lo.map F.ev) = some l) (hhi : bnd (bs.length : Int) (hi.map F.ev) = some u) (hs : isStr cfg.P ty = true)
    (hg : guardA all { dst := some d, op := .slice ty x lo hi none, type, pos, after, guard := g } F = some true) (hd : Nat.blt d F.n = true)
    (h : Ow cfg draw ds all rest (lab + 64) { F with t := upd F.t d (ST ((bs.drop l.toNat).take (u.toNat - l.toNat))) } Q) : Ow cfg draw ds all ({ dst := some d, op := .slice ty x lo hi none, type, pos, after, guard := g } :: rest) lab F Q := by
  refine ow_val rfl hg rfl ?_ hd h
  have e : (⟨⟨bs⟩⟩ : ByteArray).size = bs.length := rfl
  simp only [quiet, hx, sliceA, Option.map_none, hs, hlo, e, hhi]
  rw [if_pos ⟨h0, h1, h2⟩]
/-- A part of a slice. -/
theorem ow_sub {ty el : TypeId} {x : Operand} {lo hi : Option Operand} {rows : List (List AV)} {nl : Bool} {own : Own} {sz : Nat} {l u : Int} (h0 : 0 ≤ l) (h1 : l ≤ u) (h2 : u ≤ rows.length) (hall : ∀ r ∈ rows, r.length = sz) (hx : F.ev x = .slice rows nl own) (hlo : bnd 0 (lo.map F.ev) = some l) (hhi : bnd (rows.length : Int) (hi.map F.ev) = some u) (he : tel cfg.P ty = some el) (hz : tsz cfg.P el = some sz)
    (hg : guardA all { dst := some d, op := .slice ty x lo hi none, type, pos, after, guard := g } F = some true) (hd : Nat.blt d F.n = true)
    (h : Ow cfg draw ds all rest (lab + 64) { F with t := upd F.t d (.slice ((rows.take u.toNat).drop l.toNat) nl .no) } Q) : Ow cfg draw ds all ({ dst := some d, op := .slice ty x lo hi none, type, pos, after, guard := g } :: rest) lab F Q := by
  refine ow_val rfl hg rfl ?_ hd h
  have ha : (rows.all fun r => r.length == sz) = true := List.all_eq_true.2 fun r hr => by simp [hall r hr]
  simp only [quiet, hx, sliceA, Option.map_none, he, hlo, hhi, hz]
  rw [if_pos ⟨h0, h1, h2, ha⟩]
end
end Go.Proofs.V
namespace Go.Proofs.V
open Go Go.RowKit
theorem leave_at {al al' : Nat → Bool} {rows : List (List AV)} {nl : Bool} {k : Nat} (e : al = al') (h : al' k = true) : leaveR al (.slice rows nl (.id k)) = .slice rows nl .fresh := by
  subst e; exact leave_id h
end Go.Proofs.V
namespace Go.Proofs.V
open Go Go.RowKit
theorem leave_eq {al al' : Nat → Bool} {rows rows' : List (List AV)} {nl : Bool} {k : Nat} (e : al = al') (h : al' k = true) (hr : rows = rows') : leaveR al (.slice rows nl (.id k)) = .slice rows' nl .fresh := by
  subst e; subst hr; exact leave_id h
end Go.Proofs.V
namespace Go.Proofs.V
open Go Go.RowKit
set_option linter.unusedVariables false
theorem isD_mark {n : Nat} {H : List (List AV)} {m : TypeId → Bool} {j k : Nat} {al : Nat → Bool} {rows rows' : List (List AV)} {l : List (Nat × AV)} {F : St} (h : (F.n, F.H, F.m, F.t j, l.map fun p => F.t p.1) = (n, H, m, .slice rows' false (.id k), l.map fun p => p.2)) (hr : rows' = rows) (ho : F.al = markR k al (.slice rows' false .fresh)) : IsD n H m j rows l F :=
  isD_of h hr (by rw [ho]; exact mark_self)
end Go.Proofs.V
namespace Go.Proofs.V
open Go Go.RowKit
set_option linter.unusedVariables false
set_option linter.unusedSimpArgs false
/-- A call, out of its body; of the result a property is told. -/
theorem evK_ofE {cfg : Cfg} {f : Nat} {args : List AV} {H : List (List AV)} {fn : Func} {c : Code} {P : AV → List (List AV) → Prop} (hf : cfg.P.funcs[f]? = some fn) (hb : fn.body = some c) (hl : args.length ≤ fn.ntmps) (hok : codeOk c = true) (hname : (fn.name == "runtime.NumGoroutine") = false) (hfz : cfg.frz f = false)
    (h : Aw cfg c { n := fn.ntmps, t := argAt args, c := 0, al := fun _ => false, H := H, m := cfg.heap f } (fun x F => (x = .normal ∨ x = .ret) ∧ ∃ vs, resultsA cfg.P F fn.results.toList = some vs ∧ vs.all AV.free = true ∧ P (leaveR F.al (packA vs)) F.H)) :
    ∃ r H', evK cfg f args H = some (r, H') ∧ P r H' := by
  obtain ⟨x, F, e, hx, vs, h1, h2, h3⟩ := h
  exact ⟨_, _, evK_of hf hb hl hok hname hfz ⟨x, F, e, hx, vs, h1, h2, rfl, rfl⟩, h3⟩
/-- Handed back: nobody's, or the taker's. -/
def NF (o : Own) : Prop := o = .no ∨ o = .fresh
/-- Within a frame. -/
def NI (o : Own) : Prop := o = .no ∨ ∃ k, o = .id k
def IsN (n : Nat) (H : List (List AV)) (m : TypeId → Bool) (j : Nat) (rows : List (List AV)) (l : List (Nat × AV)) (F : St) : Prop := ∃ t c al o, F = ⟨n, upd (updL l t) j (.slice rows false o), c, al, H, m⟩ ∧ NI o
theorem isN_of {n : Nat} {H : List (List AV)} {m : TypeId → Bool} {j : Nat} {o : Own} {rows rows' : List (List AV)} {l : List (Nat × AV)} {F : St} (h : (F.n, F.H, F.m, F.t j, l.map fun p => F.t p.1) = (n, H, m, .slice rows' false o, l.map fun p => p.2)) (hr : rows' = rows) (ho : NI o) : IsN n H m j rows l F := by
  simp only [Prod.mk.injEq] at h
  obtain ⟨rfl, rfl, rfl, h0, h⟩ := h
  subst hr
  exact ⟨F.t, F.c, F.al, o, by rw [updL_eta l F.t h, upd_eta h0], ho⟩
theorem strip_ni {o : Own} (h : NI o) {rows : List (List AV)} : strip (.slice rows false o) = .slice rows false .no := by
  rcases h with rfl | ⟨k, rfl⟩ <;> rfl
theorem strip_nf {o : Own} (h : NF o) {rows : List (List AV)} : strip (.slice rows false o) = .slice rows false .no := by
  rcases h with rfl | rfl <;> rfl
theorem leave_ni {o : Own} (h : NI o) {rows : List (List AV)} {al : Nat → Bool} : ∃ o', NF o' ∧ leaveR al (.slice rows false o) = .slice rows false o' := by
  rcases h with rfl | ⟨k, rfl⟩
  · exact ⟨.no, .inl rfl, rfl⟩
  · cases hk : al k with
    | true => exact ⟨.fresh, .inr rfl, leave_id hk⟩
    | false => exact ⟨.no, .inl rfl, by simp [leaveR, leave1, hk]⟩
end Go.Proofs.V
namespace Go.Proofs.V
open Go Go.RowKit
set_option linter.unusedVariables false
set_option linter.unusedSimpArgs false
def boxGen : AV → Nat
  | .box g _ => g
  | _ => 0
section
variable {cfg : Cfg} {F : St} {Q : St → Prop} {draw : Bool} {ds : List Nat} {all : Array Oper} {rest : List Oper} {lab : Nat} {type : TypeId} {pos : String} {after : Array Edge} {g : Option (Nat × Bool)} {d : Nat}
theorem dsL_not {ds : List Nat} {p : Operand} {s : Nat} (h : ds.contains s = false) : (dsL ds p).contains s = false := by
  unfold dsL
  split
  · split
    · simp only [List.contains_eq_mem, List.mem_filter, decide_eq_false_iff_not] at h ⊢
      exact fun hc => h hc.1
    · exact h
  · exact h
/-- A load out of a variable of the frame's own, whose mark is no numeral. -/
theorem ow_ld (s off : Nat) (row : List AV) (v : AV) {ty : TypeId} {p : Operand} (hp : F.ev p = .fp (boxGen (F.t s)) s off) (hb : F.t s = .box (boxGen (F.t s)) row) (hds : ds.contains s = false) (hv : ((tsz cfg.P ty).bind fun n => (tagg cfg.P ty).bind fun a => partA a n row off) = some v)
    (hg : guardA all { dst := some d, op := .load ty p, type, pos, after, guard := g } F = some true) (hd : Nat.blt d F.n = true)
    (h : Ow cfg draw ds all rest (lab + 64) { F with t := upd F.t d v } Q) : Ow cfg draw ds all ({ dst := some d, op := .load ty p, type, pos, after, guard := g } :: rest) lab F Q := by
  refine ow_val rfl hg rfl ?_ hd h
  obtain ⟨n, hn, h2⟩ := Option.bind_eq_some_iff.1 hv
  obtain ⟨a, ha, h3⟩ := Option.bind_eq_some_iff.1 h2
  simp only [quiet, hp, St.look, dsL_not (p := p) hds, Bool.false_eq_true, if_false, hn, ha]
  rw [hb]
  simp only [boxGen, if_true, h3, Option.map_some, keep]
/-- A store into one. -/
theorem ow_st (s off : Nat) (row : List AV) (v : AV) {ty : TypeId} {p x : Operand} (hp : F.ev p = .fp (boxGen (F.t s)) s off) (hb : F.t s = .box (boxGen (F.t s)) row) (hx : F.ev x = v) (hs : v.storable = true) (hn : tsz cfg.P ty = some v.cells.length) (ho : Nat.ble (off + v.cells.length) row.length = true)
    (hg : guardA all { dst := none, op := .store ty p x, type, pos, after, guard := g } F = some true)
    (h : Ow cfg draw ds all rest (lab + 64) { F with t := upd F.t s (.box (boxGen (F.t s)) (splice row off v.cells)) } Q) (hbx : stBoxOk draw ds F p = true := by rfl) : Ow cfg draw ds all ({ dst := none, op := .store ty p x, type, pos, after, guard := g } :: rest) lab F Q := by
  have ho' : off + v.cells.length ≤ row.length := by simpa using ho
  subst hx
  refine ow_cons (w := true) hg (fun _ => ⟨_, ?_, h⟩) (fun h => by cases h)
  simp only [opRun, allocH, opRunV, hn]
  rw [if_pos ⟨⟨hs, by trivial⟩, hbx⟩, hp]
  simp only [St.write]
  generalize boxGen (F.t s) = gen at hb
  rw [hb]
  simp only [true_and, ho', if_true, Option.bind_some, St.put]
end
/-- The same as 'isN_of', where a slot stands otherwise. -/
theorem isN_at {n : Nat} {H : List (List AV)} {m : TypeId → Bool} {j : Nat} {o : Own} {rows rows' : List (List AV)} {l l' : List (Nat × AV)} {F : St} (hl : l' = l) (h : (F.n, F.H, F.m, F.t j, l'.map fun p => F.t p.1) = (n, H, m, .slice rows' false o, l'.map fun p => p.2)) (hr : rows' = rows) (ho : NI o) : IsN n H m j rows l F := by
  subst hl; exact isN_of h hr ho
theorem is_at {n : Nat} {H : List (List AV)} {m : TypeId → Bool} {l l' : List (Nat × AV)} {F : St} (hl : l' = l) (h : (F.n, F.H, F.m, l'.map fun p => F.t p.1) = (n, H, m, l'.map fun p => p.2)) : Is n H m l F := by
  subst hl; exact is_of h
end Go.Proofs.V
namespace Go.Proofs.V
open Go Go.RowKit
set_option linter.unusedVariables false
section
variable {cfg : Cfg} {F : St} {Q : St → Prop} {draw : Bool} {ds : List Nat} {all : Array Oper} {rest : List Oper} {lab : Nat} {type : TypeId} {pos : String} {after : Array Edge} {g : Option (Nat × Bool)} {d : Nat}
/-- The same as 'ow_sub' and 'ow_substr', the part's value told beside. -/
theorem ow_sube {ty el : TypeId} {x : Operand} {lo hi : Option Operand} {rows : List (List AV)} {nl : Bool} {own : Own} {sz : Nat} {l u : Int} (rows' : List (List AV)) (hr : (rows.take u.toNat).drop l.toNat = rows') (h0 : 0 ≤ l) (h1 : l ≤ u) (h2 : u ≤ rows.length) (hall : ∀ r ∈ rows, r.length = sz) (hx : F.ev x = .slice rows nl own) (hlo : bnd 0 (lo.map F.ev) = some l) (hhi : bnd (rows.length : Int) (hi.map F.ev) = some u) (he : tel cfg.P ty = some el) (hz : tsz cfg.P el = some sz)
    (hg : guardA all { dst := some d, op := .slice ty x lo hi none, type, pos, after, guard := g } F = some true) (hd : Nat.blt d F.n = true)
    (h : Ow cfg draw ds all rest (lab + 64) { F with t := upd F.t d (.slice rows' nl .no) } Q) : Ow cfg draw ds all ({ dst := some d, op := .slice ty x lo hi none, type, pos, after, guard := g } :: rest) lab F Q := by
  subst hr
  exact ow_sub h0 h1 h2 hall hx hlo hhi he hz hg hd h
theorem ow_stre {ty : TypeId} {x : Operand} {lo hi : Option Operand} {bs : List UInt8} {l u : Int} (bs' : List UInt8) (hr : (bs.drop l.toNat).take (u.toNat - l.toNat) = bs') (h0 : 0 ≤ l) (h1 : l ≤ u) (h2 : u ≤ bs.length) (hx : F.ev x = ST bs) (hlo : bnd 0 (lo.map F.ev) = some l) (hhi : bnd (bs.length : Int) (hi.map F.ev) = some u) (hs : isStr cfg.P ty = true)
    (hg : guardA all { dst := some d, op := .slice ty x lo hi none, type, pos, after, guard := g } F = some true) (hd : Nat.blt d F.n = true)
    (h : Ow cfg draw ds all rest (lab + 64) { F with t := upd F.t d (ST bs') } Q) : Ow cfg draw ds all ({ dst := some d, op := .slice ty x lo hi none, type, pos, after, guard := g } :: rest) lab F Q := by
  subst hr
  exact ow_substr h0 h1 h2 hx hlo hhi hs hg hd h
end
end Go.Proofs.V
namespace Go.Proofs.V
open Go Go.RowKit
set_option linter.unusedVariables false
/-- Nothing but these slots matters any more. -/
theorem aw_abs {cfg : Cfg} {b : Code} {F : St} {Q : X → St → Prop} (n : Nat) (H : List (List AV)) (m : TypeId → Bool) (l : List (Nat × AV)) (h : (F.n, F.H, F.m, l.map fun p => F.t p.1) = (n, H, m, l.map fun p => p.2)) (k : ∀ t c al, Aw cfg b ⟨n, updL l t, c, al, H, m⟩ Q) : Aw cfg b F Q := by
  obtain ⟨t, c, al, rfl⟩ := is_of h
  exact k t c al
end Go.Proofs.V
namespace Go.Proofs.V
open Go Go.RowKit
set_option linter.unusedVariables false
set_option linter.unusedSimpArgs false
/-- A call that might turn the heap, where there is none, in a region that draws. -/
theorem ow_callDE {cfg : Cfg} {F : St} {Q : St → Prop} {ds : List Nat} {all : Array Oper} {rest : List Oper} {lab : Nat} {type : TypeId} {pos : String} {after : Array Edge} {g : Option (Nat × Bool)} {d : Nat} {f : Operand} {args : Array Operand} {ts : Array TypeId} {k : Nat} {first captured xs : List AV} {r v : AV} (hr : evK cfg k (xs.map strip) [] = some (r, [])) (hv : strip r = v) (hH : F.H = []) (hg : guardA all { dst := some d, op := .call { callee := .value f, args, argTypes := ts }, type, pos, after, guard := g } F = some true) (hf : F.ev f = .fn (.func k) first captured)
    (has : first ++ evs F args.toList ++ captured = xs) (ha : xs.all AV.free = true) (he : cfg.eff k = true) (hb : blind ds = false) (hd : Nat.blt d F.n = true)
    (h : Ow cfg true ds all rest (lab + 64) { F with t := upd F.t d v } Q) : Ow cfg true ds all ({ dst := some d, op := .call { callee := .value f, args, argTypes := ts }, type, pos, after, guard := g } :: rest) lab F Q := by
  subst hv
  have hd' : d < F.n := by simpa using hd
  subst has
  exact ow_cons (w := true) hg (fun _ => ⟨_, by simp only [opRun, allocH, opRunV, drawE, hb, Bool.false_eq_true, if_false, hf, target, ha, he, hH, hr, if_true, Option.bind_some, sameH, sameL, St.put, hd'], h⟩) (fun h => by cases h)
/-- A call that turns the heap, where an order is drawn. -/
theorem ow_callH {cfg : Cfg} {F : St} {Q : St → Prop} {ds : List Nat} {all : Array Oper} {rest : List Oper} {lab : Nat} {type : TypeId} {pos : String} {after : Array Edge} {g : Option (Nat × Bool)} {d : Nat} {f : Operand} {args : Array Operand} {ts : Array TypeId} {k : Nat} {first captured xs : List AV} {r v : AV} {H0 H1 : List (List AV)} (hr : evK cfg k (xs.map strip) H0 = some (r, H1)) (hv : strip r = v) (hH : F.H = H0) (hg : guardA all { dst := some d, op := .call { callee := .value f, args, argTypes := ts }, type, pos, after, guard := g } F = some true) (hf : F.ev f = .fn (.func k) first captured)
    (has : first ++ evs F args.toList ++ captured = xs) (ha : xs.all AV.free = true) (he : cfg.eff k = true) (hb : blind ds = true) (hh : heavyOp cfg (.call { callee := .value f, args, argTypes := ts }) = true) (hd : Nat.blt d F.n = true)
    (h : Ow cfg true ds all rest (lab + 64) { F with t := upd F.t d v, H := H1 } Q) : Ow cfg true ds all ({ dst := some d, op := .call { callee := .value f, args, argTypes := ts }, type, pos, after, guard := g } :: rest) lab F Q := by
  subst hv
  have hd' : d < F.n := by simpa using hd
  subst has
  subst hH
  exact ow_cons (w := true) hg (fun _ => ⟨_, by simp only [opRun, allocH, opRunV, drawE, hb, hh, hf, target, ha, he, hr, if_true, Option.bind_some, St.put, hd'], h⟩) (fun h => by cases h)
/-- The same, in a region of one order. -/
theorem ow_callE0 {cfg : Cfg} {F : St} {Q : St → Prop} {ds : List Nat} {all : Array Oper} {rest : List Oper} {lab : Nat} {type : TypeId} {pos : String} {after : Array Edge} {g : Option (Nat × Bool)} {d : Nat} {f : Operand} {args : Array Operand} {ts : Array TypeId} {k : Nat} {first captured xs : List AV} {r : AV} {H0 H1 : List (List AV)} (hr : evK cfg k (xs.map strip) H0 = some (r, H1)) (hH : F.H = H0) (hg : guardA all { dst := some d, op := .call { callee := .value f, args, argTypes := ts }, type, pos, after, guard := g } F = some true) (hf : F.ev f = .fn (.func k) first captured)
    (has : first ++ evs F args.toList ++ captured = xs) (ha : xs.all AV.free = true) (he : cfg.eff k = true) (h64 : Nat.ble (sizeR r) 64 = true) (hd : Nat.blt d F.n = true)
    (h : Ow cfg false ds all rest (lab + 64) { F with t := upd F.t d (adoptR lab r), al := markR lab F.al r, H := H1 } Q) : Ow cfg false ds all ({ dst := some d, op := .call { callee := .value f, args, argTypes := ts }, type, pos, after, guard := g } :: rest) lab F Q := by
  subst hH
  exact ow_callEG hg hf has ha he hr h64 hd h
end Go.Proofs.V
namespace Go.Proofs.V
open Go Go.RowKit
set_option linter.unusedVariables false
set_option linter.unusedSimpArgs false
theorem pr_bind {P : Program} {α β : Type} (s : Sem α) (f : α → Sem β) : pr P (s >>= f) = (pr P s).bind fun a => pr P (f a) := by
  induction s with
  | pure a => rfl
  | program k ih => exact ih P
  | _ => rfl
theorem pr_pure {P : Program} {α : Type} (a : α) : pr P (Pure.pure a : Sem α) = some a := rfl
theorem pr_ite {P : Program} {α : Type} (c : Prop) [Decidable c] (s t : Sem α) : pr P (if c then s else t) = if c then pr P s else pr P t := by split <;> rfl
theorem pr_program {P : Program} : pr P program = some P := rfl
theorem pr_underlying {P : Program} {t : TypeId} {u : TypeDesc} (h : P.underlying t = some u) : pr P (underlying t) = some u := by
  simp only [underlying, pr_bind, pr_program, Option.bind_some, h]
  rfl
theorem pr_equalIn_struct {P : Program} (d : Nat) (t : TypeId) (xs ys : Array Value) (ht : P.underlying t = some (.struct (P.fieldsOf t))) (hp : P.stoodInHeld t = false) :
    pr P (Op.equalIn (d + 1) t (.agg xs) (.agg ys)) = pr P (Op.eqFields d xs ys (P.fieldsOf t).toList) := by
  simp only [Op.equalIn, pr_bind, pr_underlying ht, Option.bind_some, pr_program, hp, Bool.false_eq_true, if_false]
  rw [← Array.forIn_toList]
  generalize (P.fieldsOf t).toList = fs
  clear ht
  induction fs with
  | nil => rfl
  | cons f fs ih =>
    simp only [List.forIn_cons, Op.eqFields, pr_bind, pr_ite]
    split
    · cases pr P (part f.type xs f.offset) with
      | none => rfl
      | some a =>
        simp only [Option.bind_some]
        cases pr P (part f.type ys f.offset) with
        | none => rfl
        | some b =>
          simp only [Option.bind_some]
          cases pr P (Op.equalIn d f.type a b) with
          | none => rfl
          | some r =>
            cases r
            · simp only [Option.bind_some, Bool.not_false, if_true, pr_pure]
            · simp only [Option.bind_some, Bool.not_true, Bool.false_eq_true, if_false, pr_pure]
              exact ih
    · simp only [pr_pure, Option.bind_some]
      exact ih
theorem pr_eqFields_cons {P : Program} {d : Nat} {xs ys : Array Value} {f : Field} {fs : List Field} {a b : Value} {r r' : Bool} (hn : (f.name == "_") = false) (ha : pr P (part f.type xs f.offset) = some a) (hb : pr P (part f.type ys f.offset) = some b) (hr : pr P (Op.equalIn d f.type a b) = some r) (h : pr P (Op.eqFields d xs ys fs) = some r') : pr P (Op.eqFields d xs ys (f :: fs)) = some (r && r') := by
  have hn' : f.name ≠ "_" := by simpa using hn
  simp only [Op.eqFields, hn', ne_eq, not_false_eq_true, if_true, pr_bind, ha, hb, hr, Option.bind_some, pr_ite, pr_pure, h]
  cases r <;> rfl
theorem pr_eqFields_nil {P : Program} {d : Nat} {xs ys : Array Value} : pr P (Op.eqFields d xs ys []) = some true := rfl
/-- A struct's comparison, out of its fields'. -/
theorem bin_struct {P : Program} {t : TypeId} {ox oy : Operand} {cs es : List AV} {us vs : List Value} {r : Bool} (hu : vals cs = some us) (hv : vals es = some vs) (ht : P.underlying t = some (.struct (P.fieldsOf t))) (hp : P.stoodInHeld t = false) (hm : P.eqGuardType P.depth t = false) (h : pr P (Op.eqFields 9999 us.toArray vs.toArray (P.fieldsOf t).toList) = some r) :
    binA P .neq t ox oy (.agg cs) (.agg es) = some (.at (.bool !r)) ∧ binA P .eql t ox oy (.agg cs) (.agg es) = some (.at (.bool r)) := by
  have he : pr P (Op.equal t (.agg us.toArray) (.agg vs.toArray)) = some r := by
    rw [← h, ← pr_equalIn_struct 9999 t _ _ ht hp]
    rfl
  have hg : ∀ op, pr P (eqGuard op t ox oy (.agg us.toArray) (.agg vs.toArray)) = some () := by
    intro op
    cases op <;> simp [eqGuard, pr_bind, pr_program, pr_ite, pr_pure, hm]
  constructor
  · simp only [binA, AV.val, hu, hv, Option.map_some, pr_bind, hg, Option.bind_some]
    simp only [binOp, pr_bind, he, Option.bind_some, pr_pure, Option.map_some]
    rfl
  · simp only [binA, AV.val, hu, hv, Option.map_some, pr_bind, hg, Option.bind_some]
    simp only [binOp, pr_bind, he, Option.bind_some, pr_pure, Option.map_some]
    rfl
section
variable {cfg : Cfg} {F : St} {Q : St → Prop} {draw : Bool} {ds : List Nat} {all : Array Oper} {rest : List Oper} {lab : Nat} {type : TypeId} {pos : String} {after : Array Edge} {g : Option (Nat × Bool)} {d : Nat}
theorem ow_cmp {op : BinOp} {xt yt : TypeId} {x y : Operand} {r : Bool} {cs es : List AV} (hr : ∀ ox oy, binA cfg.P op xt ox oy (.agg cs) (.agg es) = some (.at (.bool r))) (hx : F.ev x = .agg cs) (hy : F.ev y = .agg es)
    (hg : guardA all { dst := some d, op := .binOp op xt x y yt, type, pos, after, guard := g } F = some true) (hd : Nat.blt d F.n = true)
    (h : Ow cfg draw ds all rest (lab + 64) { F with t := upd F.t d (.at (.bool r)) } Q) : Ow cfg draw ds all ({ dst := some d, op := .binOp op xt x y yt, type, pos, after, guard := g } :: rest) lab F Q := by
  refine ow_val rfl hg rfl ?_ hd h
  have hn : nilEq cfg.P op xt (.agg cs) (.agg es) = none := by
    unfold nilEq; cases tel cfg.P xt <;> cases op <;> rfl
  simp only [quiet, hx, hy, hn, hr]
end
end Go.Proofs.V
