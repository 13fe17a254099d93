/- The quiet operations together. -/
import Derived.Test.YtdgihbbekacgcaaGreatDoorK12
namespace Go.Proofs.W
open Go Go.Proofs.V
set_option linter.unusedVariables false
set_option linter.unusedSimpArgs false
section
variable {P : Program} {O : WO → Own → Prop} {γ : Nat → Option Nat} {R : Type} {k : WV → Option R} {r : R}
theorem wcmpB_sound {op : BinOp} {xt : TypeId} {x y : WV} {a b : AV} (hx : WR O γ x a) (hy : WR O γ y b) (n : Nat) (h : wcmpB real P op xt x y k = some r) : ∃ w v, k w = some r ∧ (∀ ox oy, nilEq P op xt a b = none ∧ binA P op xt ox oy a b = some v) ∧ WR O γ w v ∧ gensB n w := by
  unfold wcmpB at h
  split at h
  · rename_i sa a sb b
    cases hx; cases hy
    split at h
    · rename_i hun
      have hn : ∀ op, nilEq P op xt (.at (.bool a)) (.at (.bool b)) = none := by
        intro op; unfold nilEq; cases tel P xt <;> cases op <;> rfl
      have hg : ∀ op ox oy, pr P (eqGuard op xt ox oy (.bool a) (.bool b)) = some () := by
        intro op ox oy; cases op <;> rfl
      have he0 : ∀ d, pr P (Op.equalIn (d + 1) xt (.bool a) (.bool b)) = some (a == b) := by
        intro d
        simp only [Op.equalIn, pr_bind, pr_underlying hun, Option.bind_some]
        rfl
      have he : pr P (Op.equal xt (.bool a) (.bool b)) = some (a == b) := he0 9999
      split at h
      · refine ⟨_, _, h, fun ox oy => ⟨hn _, ?_⟩, .bool _ _, trivial⟩
        simp only [binA, AV.val, val1, pr_bind, hg, Option.bind_some, binOp, he, pr_pure, Option.map_some]
        rfl
      · refine ⟨_, _, h, fun ox oy => ⟨hn _, ?_⟩, .bool _ _, trivial⟩
        simp only [binA, AV.val, val1, pr_bind, hg, Option.bind_some, binOp, he, pr_pure, Option.map_some]
        rfl
      · cases h
    · cases h
  · rename_i xs ys
    cases hx with
    | agg _ as hl hh => 
    cases hy with
    | agg _ bs hl' hh' =>
    split at h
    · rename_i fs hun
      split at h
      · cases h
      · rename_i hc
        simp only [Bool.or_eq_true, not_or, Bool.not_eq_true, Bool.not_eq_false', Bool.and_eq_true] at hc
        obtain ⟨⟨h1, h2⟩, h3, h4⟩ := hc
        split at h
        · rename_i b hb
          obtain ⟨us, hu⟩ := wscal_vals (wrl_of hl hh) h3
          obtain ⟨vs, hv⟩ := wscal_vals (wrl_of hl' hh') h4
          have hq := weqF_ok (P := P) (d := 9999) (weqT_ok (γ := γ) (O := O) 8 9991) (wrl_of hl hh) (wrl_of hl' hh') hu hv _ b hb
          have hn : ∀ op, nilEq P op xt (.agg as) (.agg bs) = none := by
            intro op; unfold nilEq; cases tel P xt <;> cases op <;> rfl
          have hbs := fun ox oy => bin_struct (t := xt) (ox := ox) (oy := oy) hu hv (by simp only [Program.fieldsOf, hun]) h1 h2 hq
          split at h
          · exact ⟨_, _, h, fun ox oy => ⟨hn _, (hbs ox oy).2⟩, .bool _ _, trivial⟩
          · exact ⟨_, _, h, fun ox oy => ⟨hn _, (hbs ox oy).1⟩, .bool _ _, trivial⟩
          · cases h
        · cases h
    · cases h
  · cases h
theorem gens_ofA1 (n : Nat) (a : AV) : gensB n (ofA1 a) := trivial
theorem map_fst {A B : Type} (l : List (Nat × Operand)) (f : Operand → A) (g : Operand → B) : ((l.map fun q => (q.1, f q.2)).map (·.1)) = ((l.map fun q => (q.1, g q.2)).map (·.1)) := by
  simp [List.map_map, Function.comp_def]
end
section
variable {θ : Nat → Option (Option Nat)} {γ : Nat → Option Nat} {ws : WS} {F : St} {B : Nat} {P : Program} {R : Type} {k : WV → Option R} {r : R}
theorem ownR_full (wal al : Nat → Bool) (θ : Nat → Option (Option Nat)) : ∀ o, o = Own.full → ownR wal al θ .full o := fun _ h => h
theorem parts_R (hr : Rl θ γ ws F B) : ∀ l : List (Nat × Operand), WRL (ownR ws.al F.al θ) γ ((l.map fun q => (q.1, ws.ev q.2)).map (·.2)) ((l.map fun q => (q.1, F.ev q.2)).map (·.2))
  | [] => trivial
  | q :: l => ⟨ev_R hr q.2, parts_R hr l⟩
theorem intW_R {O : WO → Own → Prop} {w : WV} {a : AV} {n : Int} (h : intW w = some n) (hw : WR O γ w a) : intOfA a = some n := by
  cases hw <;> simp only [intW, reduceCtorEq, Option.some.injEq] at h
  subst h; rfl
theorem statI_R {O : WO → Own → Prop} {w : WV} {a : AV} {n : Int} (h : statI w = some n) (hw : WR O γ w a) : intOfA a = some n := by
  unfold statI at h
  split at h
  · cases h; cases hw; rfl
  · cases h
theorem noGen_g {n : Nat} {w : WV} (h : noGen w = true) : gensB n w := trivial
theorem noGen_strip {w : WV} (h : noGen w = true) : noGen (wstrip w) = true := by
  cases w with
  | sl r l o => cases o <;> rfl
  | _ => first | rfl | cases h
theorem noGen_strip2 {w : WV} (h : noGen w = true) : noGen (wstrip2 w) = true := by
  cases w with
  | sl r l o => rfl
  | _ => first | rfl | cases h
theorem wq_sound (hr : Rl θ γ ws F B) {ds : List Nat} {lab : Nat} {op : Op} (h : wq real P ws ds op k = some r) : ∃ w v, k w = some r ∧ quiet P F ds lab op = some v ∧ WR (ownR ws.al F.al θ) γ w v ∧ gensB ws.ng w := by
  have hok := ownR_ok ws.al F.al θ
  have hfull := ownR_full ws.al F.al θ
  have E := fun o => ev_R hr o
  have Gn := fun o => gens_ev hr o
  unfold wq at h
  split at h
  · exact ⟨_, _, h, rfl, E _, Gn _⟩
  · exact ⟨_, _, h, rfl, E _, Gn _⟩
  · rename_i c a b
    have hc := E c
    split at h
    · rename_i t ht
      rw [ht] at hc
      cases hF : F.ev c <;> rw [hF] at hc <;> cases hc
      cases t with
      | true => exact ⟨_, _, h, by simp only [quiet, hF, if_true], E a, Gn a⟩
      | false => exact ⟨_, _, h, by simp only [quiet, hF, Bool.false_eq_true, if_false], E b, Gn b⟩
    · rename_i t ht
      rw [ht] at hc
      cases hF : F.ev c <;> rw [hF] at hc <;> cases hc
      cases t with
      | true => exact ⟨_, _, h, by simp only [quiet, hF, if_true], E a, Gn a⟩
      | false => exact ⟨_, _, h, by simp only [quiet, hF, Bool.false_eq_true, if_false], E b, Gn b⟩
    · cases h
  · rename_i t parts
    split at h
    · rename_i cs place hz hp
      split at h
      · rename_i rr hf
        obtain ⟨r', h1, h2⟩ := wfill_R hok hfull place _ _ _ _ _ (map_fst (A := AV) (B := WV) parts.toList F.ev ws.ev) (parts_R hr parts.toList) (ofA1s_R cs) hf
        exact ⟨_, _, h, by simp only [quiet, hz, hp, h1, Option.map_some], wr_agg h2, trivial⟩
      · cases h
    · cases h
  · rename_i t len parts
    split at h
    · rename_i e he
      split at h
      · rename_i z sz rt hz hsz hrt
        split at h
        · rename_i hc
          split at h
          · rename_i rows hf
            split at h
            · rename_i l hl
              obtain ⟨r', h1, h2⟩ := wfillRows_R hok hfull sz _ _ _ _ _ (map_fst (A := AV) (B := WV) parts.toList F.ev ws.ev) (parts_R hr parts.toList) (repl_R (ofA1s_R z) len) hf
              have hR := unrows_R rt _ _ _ hl h2
              exact ⟨_, _, h, by simp only [quiet, he, hz, hsz, hc, h1, Option.map_some, ne_eq, not_false_eq_true, and_self, if_true], .sl _ _ .full _ false .full ⟨hR, fun e => by cases e⟩ rfl (fun _ e => by cases e), trivial⟩
            · cases h
          · cases h
        · cases h
      · cases h
    · cases h
  · rename_i t x y
    split at h
    · rename_i e n he hn hs
      split at h
      · rename_i z sz by_ rt hz hsz hby hrt
        split at h
        · rename_i hc
          split at h
          · rename_i u hu
            have hx := intW_R hn (E x)
            have hy : intOfA (F.ev y) = some n := by
              rw [Bool.or_eq_true] at hs
              rcases hs with hs | hs
              · have := (sameOp_eq hs).1
                cases this
                exact hx
              · rw [Bool.and_eq_true] at hs
                obtain ⟨h1, h2⟩ := hs
                cases hq : statI (ws.ev x) with
                | none => rw [hq] at h1; cases h1
                | some m =>
                  have := statI_R hq (E x)
                  rw [hx] at this
                  cases this
                  rw [hq] at h2
                  exact statI_R (by simp at h2; exact h2.symm) (E y)
            simp only [real] at h
            split at h
            · rename_i c0
              split at h
              · rename_i c1
                split at h
                · rename_i c2
                  have c0' : 0 ≤ n := of_decide_eq_true c0
                  simp only [Bool.and_eq_true, decide_eq_true_eq] at c1 c2
                  have hrow := unrow_R (O := ownR ws.al F.al θ) (γ := γ) rt _ _ _ hu (ofA1s_R z)
                  refine ⟨_, _, h, ?_, .sl _ _ .full (List.replicate n.toNat z) false .full ?_ rfl (fun _ e => by cases e), trivial⟩
                  · simp only [quiet, he, hx, hy, hz, hsz, hby]
                    rw [if_pos ⟨trivial, c0', by omega, c2.1, hc.1, hc.2⟩]
                  · refine ⟨?_, fun e => by cases e⟩
                    generalize n.toNat = m
                    induction m with
                    | zero => trivial
                    | succ m ih => exact ⟨hrow, ih⟩
                · cases h
              · cases h
            · cases h
          · cases h
        · cases h
      · cases h
    · cases h
  · rename_i t q
    split at h
    · rename_i row off n g hl hn hg
      split at h
      · rename_i w hw
        split at h
        · rename_i hng
          obtain ⟨row', h1, h2⟩ := wlook_R hr (E q) hl
          obtain ⟨v, h3, h4⟩ := wpart_R h2 hw
          have hq := E q
          refine ⟨_, keep (F.ev q) v, h, by simp only [quiet, h1, hn, hg, h3, Option.map_some], ?_, ?_⟩
          · revert hl hq
            cases ws.ev q <;> intro hl hq <;> first | (cases hl; done) | skip
            · cases hF : F.ev q <;> rw [hF] at hq <;> cases hq
              exact strip_same hok hfull h4
            · cases hF : F.ev q <;> rw [hF] at hq <;> cases hq
              exact h4
          · split
            · exact noGen_g hng
            · exact noGen_g (noGen_strip hng)
        · cases h
      · cases h
    · cases h
  · rename_i x
    have hx := E x
    have hg := Gn x
    split at h
    · rename_i row off hw
      rw [hw] at hx
      cases hF : F.ev x <;> rw [hF] at hx <;> cases hx
      rename_i as hl hh
      exact ⟨_, _, h, by simp only [quiet, hF], .ref _ as _ hl hh, trivial⟩
    · rename_i g s off hw
      rw [hw] at hx hg
      cases hF : F.ev x <;> rw [hF] at hx <;> cases hx
      rename_i g' hg'
      exact ⟨_, .fp g' s off, h, by simp only [quiet, hF], .fp _ _ _ _ hg', trivial⟩
    · cases h
  · rename_i o xt x y yt
    have hx := E x
    have hy := E y
    split at h
    · rename_i a b ha hb
      have e1 := stat_R ha hx
      have e2 := stat_R hb hy
      split at h
      · rename_i v hv
        exact ⟨_, _, h, by simp only [quiet, e1, e2, hv], ofA1_R v, gens_ofA1 _ v⟩
      · rename_i hv
        split at h
        · rename_i v hv'
          exact ⟨_, _, h, by simp only [quiet, e1, e2, hv, hv'], ofA1_R v, gens_ofA1 _ v⟩
        · cases h
    · split at h
      · rename_i w1 w2
        rw [w1] at hx; rw [w2] at hy
        obtain ⟨w, v, h1, h2, h3, h4⟩ := wbin_sound ws.ng h hx hy
        obtain ⟨q1, q2⟩ := h2 xt x y
        exact ⟨w, v, h1, by simp only [quiet, q1, q2], h3, h4⟩
      · rename_i w1 w2
        rw [w1] at hx; rw [w2] at hy
        obtain ⟨w, v, h1, h2, h3, h4⟩ := wbin_sound ws.ng h hx hy
        obtain ⟨q1, q2⟩ := h2 xt x y
        exact ⟨w, v, h1, by simp only [quiet, q1, q2], h3, h4⟩
      · rename_i w1 w2
        rw [w1] at hx; rw [w2] at hy
        obtain ⟨w, v, h1, h2, h3, h4⟩ := wbin_sound ws.ng h hx hy
        obtain ⟨q1, q2⟩ := h2 xt x y
        exact ⟨w, v, h1, by simp only [quiet, q1, q2], h3, h4⟩
      · rename_i w1 w2
        rw [w1] at hx; rw [w2] at hy
        obtain ⟨w, v, h1, h2, h3, h4⟩ := wbin_sound ws.ng h hx hy
        obtain ⟨q1, q2⟩ := h2 xt x y
        exact ⟨w, v, h1, by simp only [quiet, q1, q2], h3, h4⟩
      · obtain ⟨w, v, h1, h2, h3, h4⟩ := wcmpB_sound hx hy ws.ng h
        obtain ⟨q1, q2⟩ := h2 x y
        exact ⟨w, v, h1, by simp only [quiet, q1, q2], h3, h4⟩
  · rename_i o xt x
    have hx := E x
    split at h
    · rename_i a ha
      have e1 := stat_R ha hx
      split at h
      · rename_i u hu
        split at h
        · rename_i v hv
          exact ⟨_, _, h, by simp only [quiet, e1, hu, hv, Option.map_some], ofA1_R _, gens_ofA1 _ _⟩
        · cases h
      · cases h
    · obtain ⟨w, v, h1, h2, h3, h4⟩ := wun_sound (P := P) hx ws.ng h
      exact ⟨w, v, h1, h2, h3, h4⟩
  · rename_i s d x
    have hx := E x
    split at h
    · rename_i a ha
      have e1 := stat_R ha hx
      split at h
      · rename_i v hv
        split at h
        · exact wconv_sound hok.no hx ws.ng (Gn x) h
        · exact ⟨_, _, h, by simp only [quiet, e1, hv], ofA1_R v, gens_ofA1 _ v⟩
      · cases h
    · exact wconv_sound hok.no hx ws.ng (Gn x) h
  · exact wslice_sound hr h
  · rename_i t x i
    split at h
    · rename_i off sz hp
      split at h
      · cases h
      · rename_i hz
        split at h
        · rename_i w hw
          obtain ⟨a', h1, h2, h3⟩ := wshift_R (E x) hw
          exact ⟨_, _, h, by simp only [quiet, fieldAddrA, hp, hz, if_false, h1], h2, h3 _ (Gn x)⟩
        · cases h
    · cases h
  · rename_i t x i
    have hx := E x
    split at h
    · rename_i cs off ft hw hf
      rw [hw] at hx
      cases hF : F.ev x <;> rw [hF] at hx <;> cases hx
      rename_i as hl hh
      split at h
      · rename_i sz g hsz hg
        split at h
        · rename_i w hw
          split at h
          · rename_i hng
            obtain ⟨v, h1, h2⟩ := wpart_R (wrl_of hl hh) hw
            exact ⟨_, _, h, by simp only [quiet, fieldA, hF, hf, hsz, hg, h1], h2, noGen_g hng⟩
          · cases h
        · cases h
      · cases h
    · cases h
  · rename_i t x i
    exact windexAddr_sound hok.no (E x) (E i) ws.ng (Gn x) h
  · rename_i t x i
    exact windex_sound (E x) (E i) ws.ng h
  · rename_i x i
    have hx := E x
    split at h
    · rename_i vs hw
      rw [hw] at hx
      cases hF : F.ev x <;> rw [hF] at hx <;> cases hx
      rename_i as hl hh
      split at h
      · rename_i w hw
        split at h
        · rename_i hng
          obtain ⟨v, h1, h2⟩ := All2.get (wrl_of hl hh) hw
          exact ⟨_, _, h, by simp only [quiet, hF, h1, Option.map_some], strip2_same hok hfull h2, noGen_g (noGen_strip2 hng)⟩
        · cases h
      · cases h
    · cases h
  · cases h
end
end Go.Proofs.W
namespace Go.Proofs.W
open Go Go.Proofs.V
set_option linter.unusedVariables false
set_option linter.unusedSimpArgs false
def WS.put (ws : WS) (d : Option Nat) (w : WV) : Option WS :=
  match d with
  | none => some ws
  | some d => if d < ws.n then some { ws with t := upd ws.t d w } else none
section
variable {θ : Nat → Option (Option Nat)} {γ : Nat → Option Nat} {ws ws' : WS} {F : St} {B : Nat}
theorem put_R (h : Rl θ γ ws F B) {d : Option Nat} {w : WV} {v : AV} (hw : WR (ownR ws.al F.al θ) γ w v) (hp : ws.put d w = some ws') : ∃ F', F.put d v = some F' ∧ Rl θ γ ws' F' B ∧ F'.c = F.c ∧ F'.al = F.al := by
  cases d with
  | none => cases hp; exact ⟨F, rfl, h, rfl, rfl⟩
  | some d =>
    simp only [WS.put] at hp
    split at hp
    · rename_i hd
      cases hp
      refine ⟨{ F with t := upd F.t d v }, by simp only [St.put, h.n, hd, if_true], ⟨h.n, h.H, h.m, fun i => ?_, h.b, h.i, h.f, h.g⟩, rfl, rfl⟩
      simp only [upd_apply]
      split
      · exact hw
      · exact h.t i
    · cases hp
/-- Marks and generations may grow. -/
theorem Rl.grow (h : Rl θ γ ws F B) {B' : Nat} (hB : B ≤ B') : Rl θ γ ws F B' :=
  ⟨h.n, h.H, h.m, h.t, fun c i h1 h2 => Nat.lt_of_lt_of_le (h.b c i h1 h2) hB, h.i, h.f, h.g⟩
/-- A new generation. -/
theorem Rl.gen (h : Rl θ γ ws F B) (lab : Nat) : Rl θ (upd γ ws.ng (some lab)) { ws with ng := ws.ng + 1 } F B where
  n := h.n
  H := h.H
  m := h.m
  t i := (h.t i).imp (fun _ _ h => h) fun g x hg => by
    rw [upd_apply]
    split
    · rename_i e; subst e; rw [h.g _ (Nat.le_refl _)] at hg; cases hg
    · exact hg
  b := h.b
  i := h.i
  f := h.f
  g g hg := by
    have hg : ws.ng + 1 ≤ g := hg
    rw [upd_apply, if_neg (by omega)]
    exact h.g g (by omega)
end
def wwrite (ws : WS) (q : WV) (cs : List WV) : Option WS :=
  match q with
  | .fp g s off => match ws.t s with
    | .box g' row => if g = g' ∧ off + cs.length ≤ row.length then some { ws with t := upd ws.t s (.box g (wsplice row off cs)) } else none
    | _ => none
  | _ => none
def wfreeze (ws : WS) : List Operand → Option (List WV × WS)
  | [] => some ([], ws)
  | .tmp i :: xs => match ws.t i with
    | .box g cs => (wfreeze { ws with t := upd ws.t i (.ref (cs.map wstrip1) 0) } xs).map fun r => (.ref (cs.map wstrip1) 0 :: r.1, r.2)
    | x => if wfree x then (wfreeze ws xs).map fun r => (wstrip x :: r.1, r.2) else none
  | o :: xs => if wfree (ws.ev o) then (wfreeze ws xs).map fun r => (wstrip (ws.ev o) :: r.1, r.2) else none
section
variable {θ : Nat → Option (Option Nat)} {γ : Nat → Option Nat} {ws ws' : WS} {F : St} {B : Nat}
theorem wwrite_R (h : Rl θ γ ws F B) {q : WV} {a : AV} (hq : WR (ownR ws.al F.al θ) γ q a) {cs : List WV} {as : List AV} (hc : WRL (ownR ws.al F.al θ) γ cs as) (hw : wwrite ws q cs = some ws') : ∃ F', F.write a as = some F' ∧ Rl θ γ ws' F' B ∧ F'.c = F.c ∧ F'.al = F.al := by
  cases hq <;> simp only [wwrite, reduceCtorEq] at hw
  case fp g gg s off hgg =>
    split at hw
    · rename_i g' row hs
      split at hw
      · rename_i hc2
        obtain ⟨rfl, hle⟩ := hc2
        cases hw
        have ht := h.t s
        rw [hs] at ht
        cases hF : F.t s <;> rw [hF] at ht <;> cases ht
        rename_i g3 hl2 hg3 hl3 h3
        rw [hgg] at hg3
        cases hg3
        have hrow := wrl_of (O := ownR ws.al F.al θ) (γ := γ) hl3 h3
        refine ⟨{ F with t := upd F.t s (.box gg (splice hl2 off as)) }, by simp only [St.write, hF, true_and]; rw [if_pos (by rw [← hc.len, ← hrow.len]; exact hle)], ⟨h.n, h.H, h.m, fun i => ?_, h.b, h.i, h.f, h.g⟩, rfl, rfl⟩
        simp only [upd_apply]
        split
        · exact wr_box hgg (wsplice_R hrow hc)
        · exact h.t i
      · cases hw
    · cases hw
theorem wfreeze_R : ∀ (l : List Operand) {ws ws' : WS} {F : St} {xs : List WV}, Rl θ γ ws F B → wfreeze ws l = some (xs, ws') → ∃ ys F', freezeL F l = some (ys, F') ∧ WRL (ownR ws'.al F'.al θ) γ xs ys ∧ Rl θ γ ws' F' B ∧ F'.c = F.c ∧ F'.al = F.al ∧ ws'.al = ws.al
  | [], ws, ws', F, xs, h, hf => by cases hf; exact ⟨[], F, rfl, trivial, h, rfl, rfl, rfl⟩
  | o :: l, ws, ws', F, xs, h, hf => by
    have hok := ownR_ok ws.al F.al θ
    have hfull := ownR_full ws.al F.al θ
    have other : ∀ {x : WV} {y : AV}, WR (ownR ws.al F.al θ) γ x y → (wfreeze ws l).map (fun r => (x :: r.1, r.2)) = some (xs, ws') → ∃ ys F', (freezeL F l).map (fun r => (y :: r.1, r.2)) = some (ys, F') ∧ WRL (ownR ws'.al F'.al θ) γ xs ys ∧ Rl θ γ ws' F' B ∧ F'.c = F.c ∧ F'.al = F.al ∧ ws'.al = ws.al := by
      intro x y hxy hm
      simp only [Option.map_eq_some_iff] at hm
      obtain ⟨⟨zs, w2⟩, h1, h2⟩ := hm
      cases h2
      obtain ⟨ys, F', q1, q2, q3, q4, q5, q6⟩ := wfreeze_R l h h1
      exact ⟨y :: ys, F', by simp only [q1, Option.map_some], ⟨by rw [q5, q6]; exact hxy, q2⟩, q3, q4, q5, q6⟩
    have gen : ∀ (hfr : wfree (ws.ev o) = true), (wfreeze ws l).map (fun r => (wstrip (ws.ev o) :: r.1, r.2)) = some (xs, ws') → ∃ ys F', (freezeL F l).map (fun r => (strip (F.ev o) :: r.1, r.2)) = some (ys, F') ∧ WRL (ownR ws'.al F'.al θ) γ xs ys ∧ Rl θ γ ws' F' B ∧ F'.c = F.c ∧ F'.al = F.al ∧ ws'.al = ws.al :=
      fun hfr hm => other (strip_same hok hfull (ev_R h o)) hm
    cases o with
    | tmp i =>
      have ht := h.t i
      simp only [wfreeze] at hf
      split at hf
      · rename_i g cs hs
        rw [hs] at ht
        cases hF : F.t i <;> rw [hF] at ht <;> cases ht
        rename_i g3 as hg3 hl3 h3
        have hrow := wrl_of (O := ownR ws.al F.al θ) (γ := γ) hl3 h3
        have hrow' : WRL (ownR ws.al F.al θ) γ (cs.map wstrip1) (as.map strip1) := WRL.map (fun w a h => strip1_same hok hfull h) hrow
        simp only [Option.map_eq_some_iff] at hf
        obtain ⟨⟨zs, w2⟩, h1, h2⟩ := hf
        cases h2
        have h' : Rl θ γ { ws with t := upd ws.t i (.ref (cs.map wstrip1) 0) } { F with t := upd F.t i (.ref (as.map strip1) 0) } B := ⟨h.n, h.H, h.m, fun j => by
          simp only [upd_apply]
          split
          · exact wr_ref hrow'
          · exact h.t j, h.b, h.i, h.f, h.g⟩
        obtain ⟨ys, F', q1, q2, q3, q4, q5, q6⟩ := wfreeze_R l h' h1
        refine ⟨.ref (as.map strip1) 0 :: ys, F', by simp only [freezeL, hF, q1, Option.map_some], ⟨by rw [q5, q6]; exact wr_ref hrow', q2⟩, q3, q4, q5, q6⟩
      · rename_i x hnb
        split at hf
        · rename_i hfr
          have hx : ws.tmp i = ws.t i := by
            unfold WS.tmp
            split
            · rename_i g cs hs; exact absurd hs (hnb g cs)
            · rfl
          have hfree := wfree_R ht hfr
          obtain ⟨ys, F', q1, q2⟩ := other (strip_same hok hfull ht) hf
          refine ⟨ys, F', ?_, q2⟩
          simp only [freezeL]
          split
          · rename_i g cs hF; rw [hF] at hfree; cases hfree
          · rw [if_pos hfree]; exact q1
        · cases hf
    | const v =>
      simp only [wfreeze] at hf
      split at hf
      · rename_i hfr
        obtain ⟨ys, F', q1, q2⟩ := gen hfr hf
        exact ⟨ys, F', by simp only [freezeL, wfree_R (ev_R h (.const v)) hfr, if_true]; exact q1, q2⟩
      · cases hf
    | global v =>
      simp only [wfreeze] at hf
      split at hf
      · rename_i hfr
        obtain ⟨ys, F', q1, q2⟩ := gen hfr hf
        exact ⟨ys, F', by simp only [freezeL, wfree_R (ev_R h (.global v)) hfr, if_true]; exact q1, q2⟩
      · cases hf
    | func v =>
      simp only [wfreeze] at hf
      split at hf
      · rename_i hfr
        obtain ⟨ys, F', q1, q2⟩ := gen hfr hf
        exact ⟨ys, F', by simp only [freezeL, wfree_R (ev_R h (.func v)) hfr, if_true]; exact q1, q2⟩
      · cases hf
end
end Go.Proofs.W
namespace Go.Proofs.W
open Go Go.Proofs.V
set_option linter.unusedVariables false
set_option linter.unusedSimpArgs false
inductive SV where
  | c (c : CT)
  | fr (r : RT)
  | agg (l : List SV)
  | ref (l : List SV) (off : Nat)
  | fn (f : Nat) (a b : List SV)
  | top
mutual
def dyn : SV → List CT
  | .c c => [c]
  | .fr r => [.sl r]
  | .agg l => dynL l
  | .ref l _ => dynL l
  | .fn _ a b => dynL a ++ dynL b
  | .top => []
def dynL : List SV → List CT
  | [] => []
  | v :: l => dyn v ++ dynL l
end
mutual
def flat : SV → WV → Option (List WV)
  | .c _, w => some [w]
  | .fr _, w => some [w]
  | .agg l, .agg cs => flatL l cs
  | .ref l off, .ref cs off' => if off = off' then flatL l cs else none
  | .fn f a b, .fn f' c1 c2 => if f = f' then match flatL a c1, flatL b c2 with
    | some x, some y => some (x ++ y)
    | _, _ => none
    else none
  | .top, _ => some []
  | _, _ => none
def flatL : List SV → List WV → Option (List WV)
  | [], [] => some []
  | v :: l, w :: ws => match flat v w, flatL l ws with
    | some x, some y => some (x ++ y)
    | _, _ => none
  | _, _ => none
end
mutual
def fill : SV → List WV → Option (WV × List WV)
  | .c _, w :: ws => some (w, ws)
  | .fr _, w :: ws => some (w, ws)
  | .agg l, ws => (fillL l ws).map fun r => (.agg r.1, r.2)
  | .ref l off, ws => (fillL l ws).map fun r => (.ref r.1 off, r.2)
  | .fn f a b, ws => match fillL a ws with
    | some (x, ws') => (fillL b ws').map fun r => (.fn f x r.1, r.2)
    | none => none
  | .top, ws => some (.top, ws)
  | _, _ => none
def fillL : List SV → List WV → Option (List WV × List WV)
  | [], ws => some ([], ws)
  | v :: l, ws => match fill v ws with
    | some (w, ws') => (fillL l ws').map fun r => (w :: r.1, r.2)
    | none => none
end
@[reducible] def Tl : List CT → Type
  | [] => Unit
  | [c] => Tc c
  | c :: c' :: cs => Tc c × Tl (c' :: cs)
def packL : (cs : List CT) → List WV → Option (Tl cs)
  | [], [] => some ()
  | [c], [w] => unc c w
  | c :: c' :: cs, w :: ws => (unc c w).bind fun x => (packL (c' :: cs) ws).map fun y => (x, y)
  | _, _ => none
def unpackL : (cs : List CT) → Tl cs → List WV
  | [], _ => []
  | [c], x => [cellW c x]
  | c :: c' :: cs, x => cellW c x.1 :: unpackL (c' :: cs) x.2

/-- Without marks. -/
def Ono (o : WO) (own : Own) : Prop := o = .no
theorem hmN {o : WO} {own own' : Own} {rows : List (List AV)} (ho : Ono o own) : ∀ c, o = .mine c → own' = .full → rows = [] := fun c e => by rw [show o = .no from ho] at e; cases e
theorem ono_ok : ∀ o, Ono .no o := fun _ => rfl
section
variable {O O' : WO → Own → Prop} {γ γ' : Nat → Option Nat}
/-- Leaves, as they were, and as they are. -/
def LR (O O' : WO → Own → Prop) (γ γ' : Nat → Option Nat) (l l' : WV) : Prop := ∀ b, WR O γ l b → WR O' γ' l' b
theorem packL_LR : ∀ (cs : List CT) (ws : List WV) (x : Tl cs), packL cs ws = some x → All2 (LR O Ono γ γ') ws (unpackL cs x)
  | [], [], x, h => trivial
  | [], w :: ws, x, h => by simp [packL] at h
  | [c], [], x, h => by simp [packL] at h
  | [c], [w], x, h => ⟨fun b hb => cellW_R ono_ok c x b (unc_R c w x b h hb), trivial⟩
  | [c], w :: w' :: ws, x, h => by simp [packL] at h
  | c :: c' :: cs, [], x, h => by simp [packL] at h
  | c :: c' :: cs, w :: ws, x, h => by
    simp only [packL, Option.bind_eq_some_iff, Option.map_eq_some_iff] at h
    obtain ⟨y, h1, z, h2, rfl⟩ := h
    exact ⟨fun b hb => cellW_R ono_ok c y b (unc_R c w y b h1 hb), packL_LR (c' :: cs) ws z h2⟩
theorem All2.split {α β : Type} {R : α → β → Prop} : ∀ {a b : List α} {m : List β}, All2 R (a ++ b) m → ∃ m1 m2, m = m1 ++ m2 ∧ All2 R a m1 ∧ All2 R b m2
  | [], b, m, h => ⟨[], m, rfl, trivial, h⟩
  | x :: a, b, [], h => h.elim
  | x :: a, b, y :: m, h => by
    obtain ⟨m1, m2, rfl, h1, h2⟩ := All2.split (a := a) h.2
    exact ⟨y :: m1, m2, rfl, ⟨h.1, h1⟩, h2⟩
mutual
theorem flat_fill : ∀ (sv : SV) (w : WV) (ls : List WV), flat sv w = some ls → ∀ (ls' rest : List WV), All2 (LR O O' γ γ') ls ls' → ∃ w', fill sv (ls' ++ rest) = some (w', rest) ∧ LR O O' γ γ' w w'
  | .c c, w, ls, h, ls', rest, hl => by
    simp only [flat] at h
    cases h
    cases ls' with
    | nil => exact hl.elim
    | cons y ys => cases ys with
      | cons => exact hl.2.elim
      | nil => exact ⟨y, rfl, hl.1⟩
  | .fr c, w, ls, h, ls', rest, hl => by
    simp only [flat] at h
    cases h
    cases ls' with
    | nil => exact hl.elim
    | cons y ys => cases ys with
      | cons => exact hl.2.elim
      | nil => exact ⟨y, rfl, hl.1⟩
  | .top, w, ls, h, ls', rest, hl => by
    simp only [flat] at h
    cases h
    cases ls' with
    | nil => exact ⟨.top, rfl, fun b _ => .top b⟩
    | cons => exact hl.elim
  | .agg l, w, ls, h, ls', rest, hl => by
    cases w <;> simp only [flat, reduceCtorEq] at h
    obtain ⟨ws', h1, h2⟩ := flatL_fill l _ ls h ls' rest hl
    refine ⟨.agg ws', by simp only [fill, h1, Option.map_some], fun b hb => ?_⟩
    cases hb with
    | agg _ as hl hh => exact wr_agg (h2 as (wrl_of hl hh))
  | .ref l off, w, ls, h, ls', rest, hl => by
    cases w <;> simp only [flat, reduceCtorEq] at h
    split at h
    · rename_i e
      subst e
      obtain ⟨ws', h1, h2⟩ := flatL_fill l _ ls h ls' rest hl
      refine ⟨.ref ws' off, by simp only [fill, h1, Option.map_some], fun b hb => ?_⟩
      cases hb with
      | ref _ as _ hl hh => exact wr_ref (h2 as (wrl_of hl hh))
    · cases h
  | .fn f a b, w, ls, h, ls', rest, hl => by
    cases w <;> simp only [flat, reduceCtorEq] at h
    split at h
    · rename_i e
      subst e
      split at h
      · rename_i x y hx hy
        cases h
        obtain ⟨m1, m2, rfl, k1, k2⟩ := All2.split hl
        obtain ⟨w1, h1, h2⟩ := flatL_fill a _ x hx m1 (m2 ++ rest) k1
        obtain ⟨w2, h3, h4⟩ := flatL_fill b _ y hy m2 rest k2
        refine ⟨.fn f w1 w2, by simp only [fill, List.append_assoc, h1, h3, Option.map_some], fun b hb => ?_⟩
        cases hb with
        | fn _ _ _ a1 a2 l1 l2 q1 q2 => exact wr_fn (h2 a1 (wrl_of l1 q1)) (h4 a2 (wrl_of l2 q2))
      · cases h
    · cases h
theorem flatL_fill : ∀ (l : List SV) (ws : List WV) (ls : List WV), flatL l ws = some ls → ∀ (ls' rest : List WV), All2 (LR O O' γ γ') ls ls' → ∃ ws', fillL l (ls' ++ rest) = some (ws', rest) ∧ ∀ as, WRL O γ ws as → WRL O' γ' ws' as
  | [], [], ls, h, ls', rest, hl => by
    simp only [flatL] at h
    cases h
    cases ls' with
    | nil => exact ⟨[], rfl, fun as h => by cases as with | nil => trivial | cons => exact h.elim⟩
    | cons => exact hl.elim
  | [], w :: ws, ls, h, ls', rest, hl => by simp [flatL] at h
  | v :: l, [], ls, h, ls', rest, hl => by simp [flatL] at h
  | v :: l, w :: ws, ls, h, ls', rest, hl => by
    simp only [flatL] at h
    split at h
    · rename_i x y hx hy
      cases h
      obtain ⟨m1, m2, rfl, k1, k2⟩ := All2.split hl
      obtain ⟨w1, h1, h2⟩ := flat_fill v w x hx m1 (m2 ++ rest) k1
      obtain ⟨w2, h3, h4⟩ := flatL_fill l ws y hy m2 rest k2
      refine ⟨w1 :: w2, by simp only [fillL, List.append_assoc, h1, h3, Option.map_some], fun as ha => ?_⟩
      cases as with
      | nil => exact ha.elim
      | cons a as => exact ⟨h2 a ha.1, h4 as ha.2⟩
    · cases h
end
end
/-- Nothing bears a generation. -/
def g0 : Nat → Option Nat := fun _ => none
/-- Arguments, as a function finds them. -/
def ArgR (a : List SV) (x : Tl (dynL a)) (as : List AV) : Prop := ∃ ws, fillL a (unpackL (dynL a) x) = some (ws, []) ∧ WRL Ono g0 ws as
def isFr : SV → Bool
  | .fr _ => true
  | _ => false
/-- A result's part. -/
def PartR (sv : SV) (w : WV) (v : AV) : Prop := WR Ono g0 w v ∧ (isFr sv = true → ∃ rows nl o, v = .slice rows nl o ∧ ((o = .full ∧ rows = []) ∨ o = .fresh))
def PartsR : List SV → List WV → List AV → Prop
  | [], [], [] => True
  | sv :: svs, w :: ws, v :: vs => PartR sv w v ∧ PartsR svs ws vs
  | _, _, _ => False
def ResR (rs : List SV) (r : Tl (dynL rs)) (rv : AV) : Prop := ∃ ws vs, fillL rs (unpackL (dynL rs) r) = some (ws, []) ∧ rv = packA vs ∧ PartsR rs ws vs
structure FSig where
  g : Nat
  a : List SV
  r : List SV
structure Ent extends FSig where
  F : Tl (dynL a) → Option (Tl (dynL r))
/-- A function does what is told of it. -/
def FSound (cfg : Cfg) (e : Ent) : Prop := ∀ x r, e.F x = some r → ∀ as, ArgR e.a x as → ∃ rv, callQ cfg (evK cfg) e.g as = some rv ∧ ResR e.r r rv
section
variable {O : WO → Own → Prop} {γ : Nat → Option Nat}
theorem pack_args {a : List SV} {ws ls : List WV} {x : Tl (dynL a)} {as : List AV} (h1 : flatL a ws = some ls) (h2 : packL (dynL a) ls = some x) (h : WRL O γ ws as) : ArgR a x as := by
  have h3 : All2 (LR O Ono γ g0) ls (unpackL (dynL a) x) := packL_LR _ _ _ h2
  obtain ⟨ws', h4, h5⟩ := flatL_fill a ws ls h1 _ [] h3
  rw [List.append_nil] at h4
  exact ⟨ws', h4, h5 as h⟩
/-- Owners may be others. -/
theorem ono_imp {w : WV} {a : AV} (hO : ∀ o, O .no o) (h : WR Ono g0 w a) : WR O γ w a := h.imp (fun o own h => by cases h; exact hO _) (fun g x h => by cases h)
theorem ono_strip1 {w : WV} {a : AV} (h : WR Ono γ w a) : WR Ono γ w (strip1 a) := by
  cases h with
  | sl r l o rows nl own h ho => cases own <;> exact .sl _ _ _ _ _ _ h ho (hmN ho)
  | nil => exact .nil
  | top => exact .top _
  | int => exact .int _ _ _
  | bool => exact .bool _ _
  | str => exact .str _ _
  | flt => exact .flt _ _ _
  | cx => exact .cx _ _ _ _
  | agg cs as hl h => exact .agg _ _ hl h
  | tup cs as hl h => exact .tup _ _ hl h
  | ref cs as off hl h => exact .ref _ _ _ hl h
  | fp g g' s off hgg => exact .fp _ _ _ _ hgg
  | box g g' hgg cs as hl h => exact .box _ _ hgg _ _ hl h
  | fn f c1 c2 a1 a2 h1 h2 h3 h4 => exact .fn _ _ _ _ _ h1 h2 h3 h4
theorem WRL.mapR {f : AV → AV} (h : ∀ w a, WR O γ w a → WR O γ w (f a)) : ∀ {cs : List WV} {as : List AV}, WRL O γ cs as → WRL O γ cs (as.map f)
  | [], [], _ => trivial
  | x :: cs, a :: as, hw => ⟨h _ _ hw.1, WRL.mapR h hw.2⟩
theorem ono_strip {w : WV} {a : AV} (h : WR Ono γ w a) : WR Ono γ w (strip a) := by
  cases h with
  | agg cs as hl h => exact wr_agg (WRL.mapR (fun w a h => ono_strip1 h) (wrl_of hl h))
  | tup cs as hl h => exact wr_tup (WRL.mapR (fun w a h => ono_strip1 h) (wrl_of hl h))
  | sl r l o rows nl own h ho => exact ono_strip1 (.sl _ _ _ _ _ _ h ho (hmN ho))
  | nil => exact .nil
  | top => exact .top _
  | int => exact .int _ _ _
  | bool => exact .bool _ _
  | str => exact .str _ _
  | flt => exact .flt _ _ _
  | cx => exact .cx _ _ _ _
  | ref cs as off hl h => exact .ref _ _ _ hl h
  | fp g g' s off hgg => exact .fp _ _ _ _ hgg
  | box g g' hgg cs as hl h => exact .box _ _ hgg _ _ hl h
  | fn f c1 c2 a1 a2 h1 h2 h3 h4 => exact .fn _ _ _ _ _ h1 h2 h3 h4
theorem argR_strip {a : List SV} {x : Tl (dynL a)} {as : List AV} (h : ArgR a x as) : ArgR a x (as.map strip) := by
  obtain ⟨ws, h1, h2⟩ := h
  exact ⟨ws, h1, WRL.mapR (fun w a h => ono_strip h) h2⟩
theorem ono_adopt {w : WV} {a : AV} (n : Nat) (h : WR Ono γ w a) : WR Ono γ w (adopt n a) := by
  cases h with
  | sl r l o rows nl own h ho => cases own <;> exact .sl _ _ _ _ _ _ h ho (hmN ho)
  | nil => exact .nil
  | top => exact .top _
  | int => exact .int _ _ _
  | bool => exact .bool _ _
  | str => exact .str _ _
  | flt => exact .flt _ _ _
  | cx => exact .cx _ _ _ _
  | agg cs as hl h => exact .agg _ _ hl h
  | tup cs as hl h => exact .tup _ _ hl h
  | ref cs as off hl h => exact .ref _ _ _ hl h
  | fp g g' s off hgg => exact .fp _ _ _ _ hgg
  | box g g' hgg cs as hl h => exact .box _ _ hgg _ _ hl h
  | fn f c1 c2 a1 a2 h1 h2 h3 h4 => exact .fn _ _ _ _ _ h1 h2 h3 h4
theorem ono_adoptAt : ∀ (n : Nat) {cs : List WV} {as : List AV}, WRL Ono γ cs as → WRL Ono γ cs (adoptAt n as)
  | _, [], [], _ => trivial
  | n, x :: cs, a :: as, h => ⟨ono_adopt n h.1, ono_adoptAt (n + 1) h.2⟩
theorem ono_leave1 {w : WV} {a : AV} (al : Nat → Bool) (h : WR Ono γ w a) : WR Ono γ w (leave1 al a).1 := by
  cases h with
  | sl r l o rows nl own h ho => cases own <;> simp only [leave1] <;> first | exact .sl _ _ _ _ _ _ h ho (hmN ho) | (split <;> exact .sl _ _ _ _ _ _ h ho (hmN ho))
  | nil => exact .nil
  | top => exact .top _
  | int => exact .int _ _ _
  | bool => exact .bool _ _
  | str => exact .str _ _
  | flt => exact .flt _ _ _
  | cx => exact .cx _ _ _ _
  | agg cs as hl h => exact wr_agg (WRL.mapR (fun w a h => ono_strip1 h) (wrl_of hl h))
  | tup cs as hl h => exact .tup _ _ hl h
  | ref cs as off hl h => exact .ref _ _ _ hl h
  | fp g g' s off hgg => exact .fp _ _ _ _ hgg
  | box g g' hgg cs as hl h => exact .box _ _ hgg _ _ hl h
  | fn f c1 c2 a1 a2 h1 h2 h3 h4 => exact .fn _ _ _ _ _ h1 h2 h3 h4
theorem ono_leaveL : ∀ {cs : List WV} {as : List AV} (al : Nat → Bool), WRL Ono γ cs as → WRL Ono γ cs (leaveL al as)
  | [], [], _, _ => trivial
  | x :: cs, a :: as, al, h => ⟨ono_leave1 al h.1, ono_leaveL _ h.2⟩
end
end Go.Proofs.W
namespace Go.Proofs.W
open Go Go.Proofs.V
set_option linter.unusedVariables false
set_option linter.unusedSimpArgs false
structure WC where
  p : Prims
  P : Program
  eff : Nat → Bool
  ds : Array Oper → Bool → List Nat
  tab : List Ent
/-- May be appended to: the class that dies with it. -/
def mayApp (ws : WS) : WV → Option (Option Nat)
  | .nil => some none
  | .sl _ l .full => match l with
    | [] => some none
    | _ :: _ => none
  | .sl _ _ (.mine c) => if ws.al c then some (some c) else none
  | _ => none
def killC (al : Nat → Bool) : Option Nat → Nat → Bool
  | none => al
  | some c => upd al c false
def wsrc (p : Prims) (P : Program) (r : RT) (xt : Option TypeId) (x : WV) : Option (List (Tr r)) :=
  match x with
  | .str _ s => if (xt.map (isStr P)) = some true then (rtEq (.one (.int .u8)) r).map fun h => castL (r := .one (.int .u8)) h.down (p.toB s) else none
  | x => if (xt.bind (tel P)).isSome then asSl r x else none
def wappend {R : Type} (W : WC) (ws : WS) (d : Option Nat) (s x : WV) (ts : Array TypeId) (k : WS → Option R) : Option R :=
  match ts[0]? with
  | none => none
  | some t => match tel W.P t with
    | none => none
    | some e => match tsz W.P e, tby W.P e, tzero W.P e, rtOf W.P 12 e with
      | some sz, some by_, some z, some r => if sz = rlen r ∧ 0 < sz ∧ 0 < by_ ∧ z.length = sz then
        match asSl r s, mayApp ws s, wsrc W.p W.P r ts[1]? x with
        | some l, some kc, some l' => if ws.al ws.nc then none else W.p.guard (W.p.fits by_ (W.p.len (W.p.cat l l'))) (
            match WS.put { ws with al := upd (killC ws.al kc) ws.nc true, nc := ws.nc + 1 } d (.sl r (W.p.cat l l') (.mine ws.nc)) with
            | some ws' => k ws'
            | none => none)
        | _, _, _ => none
        else none
      | _, _, _, _ => none

section
variable {θ : Nat → Option (Option Nat)} {γ : Nat → Option Nat} {ws ws' : WS} {F : St} {B : Nat}
theorem own_case {w : WV} {a : AV} {kc : Option Nat} (h : Rl θ γ ws F B) (hw : WR (ownR ws.al F.al θ) γ w a) (hk : mayApp ws w = some kc) : ∃ rows nl own, a = .slice rows nl own ∧ ((own = .full ∧ rows = []) ∨ ∃ c i, kc = some c ∧ ws.al c = true ∧ θ c = some (some i) ∧ own = .id i ∧ F.al i = true) := by
  unfold mayApp at hk
  split at hk
  · cases hw; exact ⟨_, _, _, rfl, .inl ⟨rfl, rfl⟩⟩
  · cases hw
    rename_i hr0 ho hm0
    split at hk
    · refine ⟨_, _, _, rfl, .inl ⟨ho, ?_⟩⟩
      have := hr0.1.len
      exact List.eq_nil_of_length_eq_zero this.symm
    · cases hk
  · split at hk
    · rename_i c hc
      cases hk
      cases hw
      rename_i ho hm0
      obtain ⟨i, hi, ho⟩ := ho
      rcases ho hc with h1 | ⟨i', rfl, h1, h2⟩
      · exact ⟨_, _, _, rfl, .inl ⟨h1, hm0 _ rfl h1⟩⟩
      · exact ⟨_, _, _, rfl, .inr ⟨c, i', rfl, hc, hi, h1, h2⟩⟩
    · cases hk
  · cases hk
/-- Marks, turned by an append. -/
theorem marks_app (h : Rl θ γ ws F B) {kc : Option Nat} {lab i0 : Nat} {al' : Nat → Bool} (hB : B ≤ lab)
    (hkc : ∀ c, kc = some c → ws.al c = true)
    (hi : i0 = lab ∨ ∃ c, kc = some c ∧ θ c = some (some i0))
    (hal : ∀ j, F.al j = true → (∀ c, kc = some c → θ c ≠ some (some j)) → al' j = true) :
    Rl (upd θ ws.nc (some (some i0))) γ { ws with al := upd (killC ws.al kc) ws.nc true, nc := ws.nc + 1 } { F with al := al' } (lab + 64) ∧
    (∀ o own, ownR ws.al F.al θ o own → ownR (upd (killC ws.al kc) ws.nc true) al' (upd θ ws.nc (some (some i0))) o own) := by
  have hkill : ∀ c, killC ws.al kc c = true → ws.al c = true ∧ kc ≠ some c := by
    intro c hc
    cases kc with
    | none => exact ⟨hc, by intro e; cases e⟩
    | some c' =>
      simp only [killC, upd_apply] at hc
      split at hc
      · cases hc
      · rename_i hne; exact ⟨hc, by intro e; cases e; exact hne rfl⟩
  have hnc : ∀ c i, θ c = some i → c ≠ ws.nc := by
    rintro c i hc rfl
    rw [h.f _ (Nat.le_refl _)] at hc
    cases hc
  have hown : ∀ o own, ownR ws.al F.al θ o own → ownR (upd (killC ws.al kc) ws.nc true) al' (upd θ ws.nc (some (some i0))) o own := by
    intro o own ho
    cases o with
    | no => trivial
    | full => exact ho
    | mine c =>
      obtain ⟨i, hi', ho⟩ := ho
      refine ⟨i, by rw [upd_ne _ _ _ _ (hnc c i hi')]; exact hi', fun hc => ?_⟩
      rw [upd_ne _ _ _ _ (hnc c i hi')] at hc
      obtain ⟨h1, h2⟩ := hkill c hc
      rcases ho h1 with h3 | ⟨i', rfl, h3, h4⟩
      · exact .inl h3
      · refine .inr ⟨i', rfl, h3, hal i' h4 fun c' hc' ht => ?_⟩
        have := h.i c c' i' h1 (hkc c' hc') hi' ht
        subst this
        exact h2 hc'
  refine ⟨⟨h.n, h.H, h.m, fun j => (h.t j).imp hown (fun _ _ h => h), ?_, ?_, ?_, h.g⟩, hown⟩
  · intro c i hc hci
    simp only [upd_apply] at hc hci
    split at hc
    · rename_i e
      rw [if_pos e] at hci
      cases hci
      rcases hi with rfl | ⟨c', hc', hi'⟩
      · omega
      · have := h.b c' _ (hkc c' hc') hi'; omega
    · rename_i e
      rw [if_neg e] at hci
      have := h.b c i (hkill c hc).1 hci; omega
  · intro c c' i hc hc' hci hci'
    simp only [upd_apply] at hc hc' hci hci'
    by_cases e : c = ws.nc <;> by_cases e' : c' = ws.nc
    · rw [e, e']
    · rw [if_pos e] at hci; rw [if_neg e'] at hc' hci'
      cases hci
      obtain ⟨q1, q2⟩ := hkill c' hc'
      rcases hi with rfl | ⟨c2, hc2, hi2⟩
      · have := h.b c' _ q1 hci'; omega
      · have := h.i c' c2 _ q1 (hkc c2 hc2) hci' hi2
        subst this
        exact absurd hc2 q2
    · rw [if_pos e'] at hci'; rw [if_neg e] at hc hci
      cases hci'
      obtain ⟨q1, q2⟩ := hkill c hc
      rcases hi with rfl | ⟨c2, hc2, hi2⟩
      · have := h.b c _ q1 hci; omega
      · have := h.i c c2 _ q1 (hkc c2 hc2) hci hi2
        subst this
        exact absurd hc2 q2
    · rw [if_neg e] at hc hci; rw [if_neg e'] at hc' hci'
      exact h.i c c' i (hkill c hc).1 (hkill c' hc').1 hci hci'
  · intro c hc
    have hc : ws.nc + 1 ≤ c := hc
    rw [upd_ne _ _ _ _ (by omega)]
    exact h.f c (by omega)
theorem wsrc_R {O : WO → Own → Prop} {P : Program} {r : RT} {xt : Option TypeId} {x : WV} {l : List (Tr r)} {a : AV} (hs : wsrc real P r xt x = some l) (hx : WR O γ x a) : isHs a = false ∧ ∃ ys, (∀ F : St, srcRows P F xt a = some ys) ∧ All2 (rowR r) l ys := by
  unfold wsrc at hs
  split at hs
  · cases hx
    split at hs
    · rename_i hc
      simp only [Option.map_eq_some_iff] at hs
      obtain ⟨⟨e⟩, _, rfl⟩ := hs
      subst e
      rename_i s' _
      exact ⟨rfl, s'.map rowOfByte, fun F => by simp only [srcRows, hc, if_true], bytesRow _⟩
    · cases hs
  · split at hs
    · rename_i hc
      obtain ⟨rows, nl, own, rfl, h⟩ := asSl_R hs hx
      exact ⟨rfl, rows, fun F => by simp only [srcRows, hc, if_true], h.1⟩
    · cases hs
theorem wappend_sound {W : WC} {cfg : Cfg} (hp : W.p = real) (hP : cfg.P = W.P) {R : Type} {k : WS → Option R} {r : R} {draw : Bool} {ds : List Nat} {lab : Nat} (hr : Rl θ γ ws F B) (hB : B ≤ lab) {d : Option Nat} {s x : WV} {a b : AV} (hs : WR (ownR ws.al F.al θ) γ s a) (hx : WR (ownR ws.al F.al θ) γ x b) {ts : Array TypeId} (h : wappend W ws d s x ts k = some r) :
    ∃ t v al' F' ws', ts[0]? = some t ∧ appendB draw ds cfg.P F lab t a b ts[1]? = some (v, al') ∧ F.putAl d v al' = some F' ∧ k ws' = some r ∧ StR ws' F' (lab + 64) ∧ F'.c = F.c := by
  unfold wappend at h
  split at h
  · cases h
  · rename_i t ht
    split at h
    · cases h
    · rename_i e he
      split at h
      · rename_i sz by_ z rt hsz hby hz hrt
        split at h
        · rename_i hc
          obtain ⟨hc1, hc2, hc3, hc4⟩ := hc
          split at h
          · rename_i l kc l' hl hk hl'
            split at h
            · cases h
            · rename_i hnc
              rw [hp] at h hl'
              simp only [real] at h
              split at h
              · rename_i hfit
                split at h
                · rename_i ws2 hput
                  obtain ⟨rows, nl, own, ha, hrows⟩ := asSl_R hl hs
                  obtain ⟨rows', nl', own', ha', hown⟩ := own_case hr hs hk
                  rw [ha] at ha'
                  cases ha'
                  obtain ⟨hhs, ys, hsrc, hys⟩ := wsrc_R hl' hx
                  rw [← hP] at he hsz hby hz hsrc
                  simp only [Bool.and_eq_true, decide_eq_true_eq] at hfit
                  have hlen : (l ++ l').length = rows.length + ys.length := by rw [List.length_append, hrows.1.len, hys.len]
                  rw [hlen] at hfit
                  obtain ⟨f1, f2⟩ := hfit
                  rw [Int.toNat_natCast] at f1
                  have f2' : rows.length + ys.length ≤ 4611686018427387904 := by omega
                  have r1 : ∀ row ∈ rows, row.length = sz := fun row hrow => by rw [rows_len hrows.1 row hrow, hc1]
                  have r2 : ∀ row ∈ ys, row.length = sz := fun row hrow => by rw [rows_len hys row hrow, hc1]
                  have hB' : ∀ {v al'}, appendA cfg.P F lab t a b ts[1]? = some (v, al') → appendB draw ds cfg.P F lab t a b ts[1]? = some (v, al') := by
                    intro v al' hv
                    unfold appendB
                    rw [hhs]
                    exact hv
                  -- the end, out of the new mark
                  have fin : ∀ (v : AV) (al' : Nat → Bool) (i0 : Nat), appendA cfg.P F lab t a b ts[1]? = some (v, al') → (i0 = lab ∨ ∃ c, kc = some c ∧ θ c = some (some i0)) → (∀ j, F.al j = true → (∀ c, kc = some c → θ c ≠ some (some j)) → al' j = true) →
                      (∃ nl2 own2, v = .slice (rows ++ ys) nl2 own2 ∧ (nl2 = true → rows ++ ys = []) ∧ ((own2 = .full ∧ rows ++ ys = []) ∨ (own2 = .id i0 ∧ al' i0 = true))) → ∃ t v al' F' ws', ts[0]? = some t ∧ appendB draw ds cfg.P F lab t a b ts[1]? = some (v, al') ∧ F.putAl d v al' = some F' ∧ k ws' = some r ∧ StR ws' F' (lab + 64) ∧ F'.c = F.c := by
                    rintro v al' i0 hv hi hal ⟨nl2, own2, rfl, hnl2, ho2⟩
                    have hkc : ∀ c, kc = some c → ws.al c = true := by
                      rintro c rfl
                      unfold mayApp at hk
                      split at hk <;> first | (cases hk; done) | (split at hk <;> first | (cases hk; done) | (rename_i c' hc'; cases hk; exact hc'))
                    obtain ⟨m1, m2⟩ := marks_app hr (lab := lab) (i0 := i0) (al' := al') hB hkc hi hal
                    have hw : WR (ownR (upd (killC ws.al kc) ws.nc true) al' (upd θ ws.nc (some (some i0)))) γ (.sl rt (l ++ l') (.mine ws.nc)) (.slice (rows ++ ys) nl2 own2) := .sl _ _ _ _ _ _ ⟨hrows.1.append hys, hnl2⟩ ⟨some i0, upd_same _ _ _, fun _ => ho2.imp (fun q => q.1) fun q => ⟨i0, rfl, q.1, q.2⟩⟩ (fun c e h => by
                      rcases ho2 with h2 | h2
                      · exact h2.2
                      · rw [h2.1] at h; cases h)
                    obtain ⟨F', p1, p2, p3, p4⟩ := put_R m1 hw hput
                    exact ⟨t, _, al', F', ws2, ht, hB' hv, p1, h, ⟨_, _, p2⟩, p3⟩
                  by_cases hne : ys = []
                  · subst hne
                    have hys0 : appendA cfg.P F lab t a b ts[1]? = some (a, F.al) := by
                      have hf : Fresh F.al own := by
                        rcases hown with h1 | ⟨c, i, h1, h2, h3, h4, h5⟩
                        · exact .inl h1.1
                        · exact .inr ⟨i, h4, h5⟩
                      rw [ha]
                      exact append_none hf he hsz hby (hsrc F) r1 hc2 (by simpa using f1) hc3 hz hc4
                    rcases hown with h1 | ⟨c, i, h1, h2, h3, h4, h5⟩
                    · exact fin a F.al lab hys0 (.inl rfl) (fun j hj _ => hj) ⟨nl, own, by rw [ha, List.append_nil], fun e => by rw [hrows.2 e, List.append_nil], .inl ⟨h1.1, by rw [h1.2]; rfl⟩⟩
                    · exact fin a F.al i hys0 (.inr ⟨c, h1, h3⟩) (fun j hj _ => hj) ⟨nl, own, by rw [ha, List.append_nil], fun e => by rw [hrows.2 e, List.append_nil], .inr ⟨h4, h5⟩⟩
                  · rcases hown with h1 | ⟨c, i, h1, h2, h3, h4, h5⟩
                    · obtain ⟨h1, h1r⟩ := h1
                      subst h1
                      refine fin _ _ lab (by rw [ha]; exact append_full he hsz hby (hsrc F) r1 r2 hc2 f1 f2' hc3 hz hc4 hne) (.inl rfl) (fun j hj _ => ?_) ⟨false, _, rfl, (fun e => by cases e), .inr ⟨rfl, upd_same _ _ _⟩⟩
                      rw [upd_apply]; split <;> first | rfl | exact hj
                    · subst h4
                      refine fin _ _ lab (by rw [ha]; exact append_id he hsz hby (hsrc F) r1 r2 hc2 f1 f2' hc3 hz hc4 hne h5) (.inl rfl) (fun j hj hn => ?_) ⟨false, _, rfl, (fun e => by cases e), .inr ⟨rfl, upd_same _ _ _⟩⟩
                      rw [upd_apply, upd_apply]
                      split
                      · rfl
                      · rw [if_neg (by rintro rfl; exact hn c h1 h3)]; exact hj
                · cases h
              · cases h
          · cases h
        · cases h
      · cases h
end
end Go.Proofs.W
namespace Go.Proofs.W
open Go Go.Proofs.V
set_option linter.unusedVariables false
set_option linter.unusedSimpArgs false
def wints : List WV → Option (List Int)
  | [] => some []
  | .int _ _ n :: ws => (wints ws).map fun l => n :: l
  | _ => none
def stats : List WV → Option (List AV)
  | [] => some []
  | w :: ws => match stat w, stats ws with
    | some a, some l => some (a :: l)
    | _, _ => none
def wbuiltin {R : Type} (W : WC) (b : Builtin) (ts : Array TypeId) (type : TypeId) (consts : Array Bool) (args : List WV) (k : WV → Option R) : Option R :=
  match stats args with
  | some as => match builtinA W.P b ts type consts as with
    | some v => k (ofA1 v)
    | none => none
  | none => match b, args with
    | .len, [.sl r l o] => match ts[0]? with
      | some t => if (tel W.P t).isSome then k (.int .i64 false (W.p.len l)) else none
      | none => none
    | .len, [.nil] => match ts[0]? with
      | some t => if (tel W.P t).isSome then k (.int .i64 true 0) else none
      | none => none
    | .len, [.str _ s] => match ts[0]? with
      | some t => if isStr W.P t then k (.int .i64 false (W.p.len s)) else none
      | none => none
    | .min, .int ki _ n :: rest => match wints rest with
      | some l => k (.int ki false (l.foldl W.p.min n))
      | none => none
    | .max, .int ki _ n :: rest => match wints rest with
      | some l => k (.int ki false (l.foldl W.p.max n))
      | none => none
    | .complex, [.flt ka _ a, .flt kb _ b] => if ka = kb then k (.cx ka false a b) else none
    | .real, [.cx ka _ a b] => k (.flt ka false a)
    | .imag, [.cx ka _ a b] => k (.flt ka false b)
    | .max, [.flt ka _ a, .flt kb _ b] => W.p.fmax ka a b fun n => k (.flt ka false n)
    | _, _ => none
section
variable {P : Program} {O : WO → Own → Prop} {γ : Nat → Option Nat} {R : Type} {k : WV → Option R} {r : R}
theorem two_R {x y : WV} {as : List AV} (h : WRL O γ [x, y] as) : ∃ a b, as = [a, b] ∧ WR O γ x a ∧ WR O γ y b := by
  cases as with
  | nil => exact h.elim
  | cons a as => cases as with
    | nil => exact h.2.elim
    | cons b as => cases as with
      | nil => exact ⟨a, b, rfl, h.1, h.2.1⟩
      | cons => exact h.2.2.elim
theorem one_R {x : WV} {as : List AV} (h : WRL O γ [x] as) : ∃ a, as = [a] ∧ WR O γ x a := by
  cases as with
  | nil => exact h.elim
  | cons a as => cases as with
    | nil => exact ⟨a, rfl, h.1⟩
    | cons => exact h.2.elim
theorem stats_R : ∀ {ws : List WV} {as as' : List AV}, stats ws = some as → WRL O γ ws as' → as' = as
  | [], as, [], h, _ => by cases h; rfl
  | w :: ws, as, a :: as', h, hw => by
    simp only [stats] at h
    split at h
    · rename_i b l h1 h2
      cases h
      rw [stat_R h1 hw.1, stats_R h2 hw.2]
    · cases h
theorem wints_R : ∀ {ws : List WV} {l : List Int} {as : List AV}, wints ws = some l → WRL O γ ws as → ∃ vs : List Value, vals as = some vs ∧ All2 (fun (n : Int) (v : Value) => ∃ k, v = .int k n) l vs
  | [], l, [], h, _ => by cases h; exact ⟨[], rfl, trivial⟩
  | w :: ws, l, a :: as, h, hw => by
    have h1 := hw.1
    cases h1 <;> simp only [wints, reduceCtorEq, Option.map_eq_some_iff] at h
    rename_i ki st n
    obtain ⟨l', h2, rfl⟩ := h
    obtain ⟨vs, q1, q2⟩ := wints_R h2 hw.2
    exact ⟨.int ki n :: vs, by simp only [vals, val1, q1], ⟨⟨ki, rfl⟩, q2⟩⟩
theorem fold_min {ki : IntKind} : ∀ (l : List Int) (vs : List Value) (n : Int), All2 (fun (n : Int) (v : Value) => ∃ k, v = .int k n) l vs → pr P (vs.foldlM Builtin.min2 (.int ki n)) = some (.int ki (l.foldl real.min n))
  | [], [], n, _ => rfl
  | m :: l, v :: vs, n, h => by
    obtain ⟨⟨kj, rfl⟩, h⟩ := h
    simp only [List.foldlM_cons, pr_bind, Builtin.min2, List.foldl_cons]
    exact fold_min l vs _ h
theorem fold_max {ki : IntKind} : ∀ (l : List Int) (vs : List Value) (n : Int), All2 (fun (n : Int) (v : Value) => ∃ k, v = .int k n) l vs → pr P (vs.foldlM Builtin.max2 (.int ki n)) = some (.int ki (l.foldl real.max n))
  | [], [], n, _ => rfl
  | m :: l, v :: vs, n, h => by
    obtain ⟨⟨kj, rfl⟩, h⟩ := h
    simp only [List.foldlM_cons, pr_bind, Builtin.max2, List.foldl_cons]
    exact fold_max l vs _ h
theorem wbuiltin_sound {W : WC} (hp : W.p = real) {b : Builtin} {ts : Array TypeId} {type : TypeId} {consts : Array Bool} {args : List WV} {as : List AV} (ha : WRL O γ args as) (h : wbuiltin W b ts type consts args k = some r) : ∃ w v, k w = some r ∧ builtinA W.P b ts type consts as = some v ∧ WR O γ w v := by
  unfold wbuiltin at h
  split at h
  · rename_i as' hs
    have := stats_R hs ha
    subst this
    split at h
    · rename_i v hv; exact ⟨_, v, h, hv, ofA1_R v⟩
    · cases h
  · rw [hp] at h
    split at h
    · rename_i rt l o _
      cases as with
      | nil => exact ha.elim
      | cons a as => cases as with
        | cons => exact ha.2.elim
        | nil =>
          have h1 := ha.1
          cases h1
          rename_i rows nl own hrows ho hm0
          split at h
          · rename_i t ht
            split at h
            · rename_i hc
              refine ⟨_, .at (.int .i64 rows.length), h, by simp only [builtinA, ht, hc, if_true], ?_⟩
              rw [← hrows.1.len]
              exact .int _ _ _
            · cases h
          · cases h
    · cases as with
      | nil => exact ha.elim
      | cons a as => cases as with
        | cons => exact ha.2.elim
        | nil =>
          have h1 := ha.1
          cases h1
          split at h
          · rename_i t ht
            split at h
            · rename_i hc
              exact ⟨_, .at (.int .i64 0), h, by simp only [builtinA, ht, hc, if_true, List.length_nil]; rfl, .int _ _ _⟩
            · cases h
          · cases h
    · rename_i st s _
      cases as with
      | nil => exact ha.elim
      | cons a as => cases as with
        | cons => exact ha.2.elim
        | nil =>
          have h1 := ha.1
          cases h1
          split at h
          · rename_i t ht
            split at h
            · rename_i hc
              refine ⟨_, .at (.int .i64 (s.length : Int)), h, ?_, .int _ _ _⟩
              have hl : pr W.P (builtin .len ts type consts #[.string ⟨⟨s⟩⟩]) = some (.value (.int .i64 (s.length : Int))) := by
                simp only [builtin, pr_bind, Builtin.len_, ht]
                have : (#[Value.string ⟨⟨s⟩⟩] : Array Value)[0]? = some (.string ⟨⟨s⟩⟩) := rfl
                simp only [this, pr_bind, pr_underlying (isStr_und hc), Option.bind_some]
                rfl
              simp only [builtinA, vals, val1]
              rw [hl]
              rfl
            · cases h
          · cases h
    · rename_i ki st n rest _
      split at h
      · rename_i l hl
        cases as with
        | nil => exact ha.elim
        | cons a as =>
          have h1 := ha.1
          cases h1
          obtain ⟨vs, q1, q2⟩ := wints_R hl ha.2
          refine ⟨_, _, h, ?_, .int _ _ _⟩
          have hm : pr W.P (builtin .min ts type consts (Value.int ki n :: vs).toArray) = some (.value (.int ki (l.foldl real.min n))) := by
            simp only [builtin, Builtin.min_, pr_bind, fold_min l vs n q2, Option.bind_some]
            rfl
          simp only [builtinA, vals, val1, q1, hm]
          rfl
      · cases h
    · rename_i ki st n rest _
      split at h
      · rename_i l hl
        cases as with
        | nil => exact ha.elim
        | cons a as =>
          have h1 := ha.1
          cases h1
          obtain ⟨vs, q1, q2⟩ := wints_R hl ha.2
          refine ⟨_, _, h, ?_, .int _ _ _⟩
          have hm : pr W.P (builtin .max ts type consts (Value.int ki n :: vs).toArray) = some (.value (.int ki (l.foldl real.max n))) := by
            simp only [builtin, Builtin.max_, pr_bind, fold_max l vs n q2, Option.bind_some]
            rfl
          simp only [builtinA, vals, val1, q1, hm]
          rfl
      · cases h
    · rename_i ka sa a kb sb b _
      obtain ⟨a', b', rfl, h1, h2⟩ := two_R ha
      cases h1; cases h2
      split at h
      · rename_i hk
        subst hk
        refine ⟨_, .at (.complex ka a b), h, ?_, .cx _ _ _ _⟩
        have hm : pr W.P (builtin .complex ts type consts #[.float ka a, .float ka b]) = some (.value (.complex ka a b)) := by
          cases ka <;> rfl
        simp only [builtinA, vals, val1]
        rw [hm]
        rfl
      · cases h
    · rename_i ka sa a b _
      obtain ⟨a', rfl, h1⟩ := one_R ha
      cases h1
      exact ⟨_, .at (.float ka a), h, rfl, .flt _ _ _⟩
    · rename_i ka sa a b _
      obtain ⟨a', rfl, h1⟩ := one_R ha
      cases h1
      exact ⟨_, .at (.float ka b), h, rfl, .flt _ _ _⟩
    · rename_i ka sa a kb sb b _
      obtain ⟨a', b', rfl, h1, h2⟩ := two_R ha
      cases h1; cases h2
      have h : fmaxF ka a b (fun n => k (.flt ka false n)) = some r := h
      have key : ∀ n, (pr W.P (Builtin.max2 (.float ka a) (.float kb b)) = some (.float ka n)) → builtinA W.P .max ts type consts [.at (.float ka a), .at (.float kb b)] = some (.at (.float ka n)) := by
        intro n hn
        have hm : pr W.P (builtin .max ts type consts #[.float ka a, .float kb b]) = some (.value (.float ka n)) := by
          have e : (#[Value.float ka a, .float kb b] : Array Value).toList = [.float ka a, .float kb b] := rfl
          simp only [builtin, Builtin.max_, e, List.foldlM_cons, List.foldlM_nil, pr_bind, hn, Option.bind_some]
          rfl
        simp only [builtinA, vals, val1]
        rw [hm]
        rfl
      unfold fmaxF at h
      split at h
      · cases h
      · rename_i ho
        exact ⟨_, _, h, key b (by simp only [Builtin.max2, ho]; rfl), .flt _ _ _⟩
      · rename_i ho
        exact ⟨_, _, h, key a (by simp only [Builtin.max2, ho]; rfl), .flt _ _ _⟩
      · rename_i ho
        exact ⟨_, _, h, key _ (by simp only [Builtin.max2, ho]; rfl), .flt _ _ _⟩
    · cases h
end
/-- Marks of what a call hands over. -/
def markW (n : Nat) : List SV → List WV → List WV
  | .fr _ :: svs, .sl r l o :: ws => .sl r l (.mine n) :: markW (n + 1) svs ws
  | _ :: svs, w :: ws => w :: markW (n + 1) svs ws
  | _, _ => []
def packW : List WV → WV
  | [w] => w
  | ws => .tup ws
def markAl (al : Nat → Bool) (n : Nat) : List SV → Nat → Bool
  | [] => al
  | .fr _ :: svs => upd (markAl al (n + 1) svs) n true
  | _ :: svs => markAl al (n + 1) svs
def wsz : WV → Nat
  | .agg cs => cs.length
  | .tup cs => cs.length
  | .top => 100
  | _ => 1
def wtab {R : Type} (p : Prims) (g : Nat) (args : List WV) (k : (rs : List SV) → Tl (dynL rs) → Option R) : List Ent → Option R
  | [] => none
  | e :: es => if e.g = g then match flatL e.a args with
      | some ls => match packL (dynL e.a) ls with
        | some x => p.bind (e.F x) fun r => k e.r r
        | none => wtab p g args k es
      | none => wtab p g args k es
    else wtab p g args k es
/-- What a call that is drawn hands over. -/
def wcallK {R : Type} (W : WC) (draw : Bool) (ws : WS) (d : Option Nat) (k : WS → Option R) (rs : List SV) (x : Tl (dynL rs)) : Option R :=
  match fillL rs (unpackL (dynL rs) x) with
  | some (us, []) => if rs.length ≤ 60 ∧ wsz (packW us) ≤ 60 then
      (match WS.put { ws with al := markAl ws.al ws.nc rs, nc := ws.nc + rs.length } d (packW (markW ws.nc rs us)) with
        | some ws' => k ws'
        | none => none)
    else none
  | _ => none
def wcall {R : Type} (W : WC) (draw : Bool) (ds : List Nat) (ws : WS) (d : Option Nat) (f : WV) (args : List WV) (k : WS → Option R) : Option R :=
  match f with
  | .fn g first captured =>
    if (first ++ args ++ captured).all wfree && !(W.eff g) && !(draw && blind ds) then
      wtab W.p g (first ++ args ++ captured) (wcallK W draw ws d k) W.tab
    else none
  | _ => none
theorem wtab_sound {R : Type} {g : Nat} {args : List WV} {k : (rs : List SV) → Tl (dynL rs) → Option R} {r : R} : ∀ (es : List Ent), wtab real g args k es = some r → ∃ e x y, e ∈ es ∧ e.g = g ∧ (∀ (O : WO → Own → Prop) γ as, WRL O γ args as → ArgR e.a x as) ∧ e.F x = some y ∧ k e.r y = some r
  | [], h => by simp [wtab] at h
  | e :: es, h => by
    have more : wtab real g args k es = some r → ∃ e' x y, e' ∈ e :: es ∧ e'.g = g ∧ (∀ (O : WO → Own → Prop) γ as, WRL O γ args as → ArgR e'.a x as) ∧ e'.F x = some y ∧ k e'.r y = some r := by
      intro h
      obtain ⟨e', x, y, h1, h2⟩ := wtab_sound es h
      exact ⟨e', x, y, List.mem_cons_of_mem _ h1, h2⟩
    unfold wtab at h
    split at h
    · rename_i hg
      split at h
      · rename_i ls hls
        split at h
        · rename_i x hx
          simp only [real] at h
          obtain ⟨y, hy, hk⟩ := Option.bind_eq_some_iff.1 h
          exact ⟨e, x, y, by simp, hg, fun O γ as ha => pack_args hls hx ha, hy, hk⟩
        · exact more h
      · exact more h
    · exact more h
end Go.Proofs.W
namespace Go.Proofs.W
open Go Go.Proofs.V
set_option linter.unusedVariables false
set_option linter.unusedSimpArgs false
theorem markAl_old : ∀ (svs : List SV) (al : Nat → Bool) (n c : Nat), markAl al n svs c = true → al c = true ∨ (n ≤ c ∧ c < n + svs.length)
  | [], al, n, c, h => .inl h
  | sv :: svs, al, n, c, h => by
    have rec_ : markAl al (n + 1) svs c = true → al c = true ∨ (n ≤ c ∧ c < n + (sv :: svs).length) := by
      intro h
      rcases markAl_old svs al (n + 1) c h with h | h
      · exact .inl h
      · exact .inr ⟨by omega, by simp only [List.length_cons]; omega⟩
    cases sv with
    | fr r =>
      simp only [markAl, upd_apply] at h
      split at h
      · rename_i e; exact .inr ⟨by omega, by simp only [List.length_cons]; omega⟩
      · exact rec_ h
    | _ => exact rec_ h
theorem freshAt_cons {m x : Nat} {v : AV} {vs : List AV} (h : freshAt (m + 1) vs x = true) : freshAt m (v :: vs) x = true := by
  unfold freshAt
  split
  · rename_i e; cases e
  · rename_i e; cases e; simp [h]
  · rename_i e; cases e; exact h
theorem parts_adopt {O' : WO → Own → Prop} {γ : Nat → Option Nat} (hO : ∀ o, O' .no o) : ∀ (svs : List SV) (us : List WV) (vs : List AV) (n m : Nat), PartsR svs us vs →
    (∀ j, j < svs.length → ∀ o, (o = .full ∨ (o = .id (m + j) ∧ freshAt m vs (m + j) = true)) → O' (.mine (n + j)) o) → WRL O' γ (markW n svs us) (adoptAt m vs)
  | [], [], [], n, m, _, _ => trivial
  | sv :: svs, u :: us, v :: vs, n, m, h, H => by
    obtain ⟨⟨h1, h2⟩, h3⟩ := h
    have tl : WRL O' γ (markW (n + 1) svs us) (adoptAt (m + 1) vs) := parts_adopt hO svs us vs (n + 1) (m + 1) h3 fun j hj o ho => by
      have e1 : n + 1 + j = n + (j + 1) := by omega
      have e2 : m + 1 + j = m + (j + 1) := by omega
      rw [e1]
      refine H (j + 1) (by simpa using hj) o ?_
      rcases ho with h | ⟨h, h'⟩
      · exact .inl h
      · rw [e2] at h h'; exact .inr ⟨h, freshAt_cons h'⟩
    have plain : WR O' γ u (adopt m v) := ono_imp hO (ono_adopt m h1)
    cases sv with
    | fr r =>
      cases u with
      | sl r' l o =>
        obtain ⟨rows, nl, own, rfl, ho⟩ := h2 rfl
        cases h1
        rename_i hrows _ _
        refine ⟨?_, tl⟩
        rcases ho with ⟨rfl, rfl⟩ | rfl
        · exact .sl _ _ _ _ _ _ hrows (H 0 (by simp) _ (.inl rfl)) (fun _ _ _ => rfl)
        · exact .sl _ _ _ _ _ _ hrows (H 0 (by simp) _ (.inr ⟨rfl, by simp [freshAt]⟩)) (fun _ _ e => by cases e)
      | _ => exact ⟨plain, tl⟩
    | _ => exact ⟨plain, tl⟩
theorem partsR_len : ∀ {svs : List SV} {us : List WV} {vs : List AV}, PartsR svs us vs → us.length = svs.length ∧ vs.length = svs.length
  | [], [], [], _ => ⟨rfl, rfl⟩
  | sv :: svs, u :: us, v :: vs, h => by simp [partsR_len h.2]
theorem partsR_wrl : ∀ {svs : List SV} {us : List WV} {vs : List AV}, PartsR svs us vs → WRL Ono g0 us vs
  | [], [], [], _ => trivial
  | sv :: svs, u :: us, v :: vs, h => ⟨h.1.1, partsR_wrl h.2⟩
theorem markW_len : ∀ (n : Nat) (svs : List SV) (us : List WV), us.length = svs.length → (markW n svs us).length = svs.length
  | _, [], us, h => by cases us <;> simp_all [markW]
  | n, s :: svs, [], h => by simp at h
  | n, s :: svs, u :: us, h => by
    have := markW_len (n + 1) svs us (by simpa using h)
    unfold markW
    split
    · simp_all
    · simp_all
    · rename_i h1 h2
      exact (h2 _ _ _ _ rfl rfl).elim
theorem parts_call {O' : WO → Own → Prop} {γ : Nat → Option Nat} (hO : ∀ o, O' .no o) (rs : List SV) (us : List WV) (vs : List AV) (n lab : Nat) (hp : PartsR rs us vs)
    (H : ∀ j, j < rs.length → ∀ o, (o = .full ∨ (o = .id (lab + j) ∧ freshR lab (packA vs) (lab + j) = true)) → O' (.mine (n + j)) o) : WR O' γ (packW (markW n rs us)) (adoptR lab (packA vs)) := by
  have hlen := partsR_len hp
  cases rs with
  | nil =>
    cases us with
    | cons => simp at hlen
    | nil => cases vs with
      | cons => simp at hlen
      | nil => exact wr_tup trivial
  | cons sv rs =>
    cases us with
    | nil => simp at hlen
    | cons u us => cases vs with
      | nil => simp at hlen
      | cons v vs =>
        cases rs with
        | nil =>
          have : us = [] := by cases us <;> simp_all
          subst this
          have : vs = [] := by cases vs <;> simp_all
          subst this
          by_cases hs : ∃ rows nl o, v = .slice rows nl o
          · obtain ⟨rows, nl, o, rfl⟩ := hs
            have hfr : ∀ x, freshAt lab [.slice rows nl o] x = true → freshR lab (packA [.slice rows nl o]) x = true := by
              intro x hx
              cases o <;> simp [freshAt, freshR, packA] at hx ⊢
              exact hx
            have pl := parts_adopt (γ := γ) hO [sv] [u] [.slice rows nl o] n lab hp fun j hj o' ho' => H j hj o' (by
              rcases ho' with h1 | ⟨h1, h2⟩
              · exact .inl h1
              · exact .inr ⟨h1, hfr _ h2⟩)
            have hm := markW_len n [sv] [u] rfl
            have e : adoptR lab (packA [.slice rows nl o]) = adopt lab (.slice rows nl o) := rfl
            rw [e]
            cases hq : markW n [sv] [u] with
            | nil => rw [hq] at hm; simp at hm
            | cons w wl =>
              cases wl with
              | cons => rw [hq] at hm; simp at hm
              | nil => rw [hq] at pl; exact pl.1
          · obtain ⟨⟨h1, h2⟩, _⟩ := hp
            have hnf : isFr sv = false := by
              cases hf : isFr sv with
              | false => rfl
              | true => obtain ⟨rows, nl, o, e, _⟩ := h2 hf; exact absurd ⟨rows, nl, o, e⟩ hs
            have hm1 : markW n [sv] [u] = [u] := by cases sv <;> first | rfl | cases hnf
            rw [hm1]
            show WR _ γ u (adoptR lab v)
            refine ono_imp hO ?_
            cases h1 with
            | agg cs as hl h => exact wr_agg (ono_adoptAt lab (wrl_of hl h))
            | tup cs as hl h => exact wr_tup (ono_adoptAt lab (wrl_of hl h))
            | top => exact .top _
            | sl r l o rows nl own h ho => exact absurd ⟨rows, nl, own, rfl⟩ hs
            | nil => exact absurd ⟨_, _, _, rfl⟩ hs
            | int => exact .int _ _ _
            | bool => exact .bool _ _
            | str => exact .str _ _
            | flt => exact .flt _ _ _
            | cx => exact .cx _ _ _ _
            | ref cs as off hl h => exact .ref _ _ _ hl h
            | fp g g' s off hgg => exact .fp _ _ _ _ hgg
            | box g g' hgg cs as hl h => cases hgg
            | fn f c1 c2 a1 a2 k1 k2 k3 k4 => exact .fn _ _ _ _ _ k1 k2 k3 k4
        | cons sv' rs =>
          cases us with
          | nil => simp at hlen
          | cons u' us => cases vs with
            | nil => simp at hlen
            | cons v' vs =>
              have pl := parts_adopt (γ := γ) hO (sv :: sv' :: rs) (u :: u' :: us) (v :: v' :: vs) n lab hp H
              have hm := markW_len n (sv :: sv' :: rs) (u :: u' :: us) hlen.1
              cases hq : markW n (sv :: sv' :: rs) (u :: u' :: us) with
              | nil => rw [hq] at hm; simp at hm
              | cons w wl =>
                cases wl with
                | nil => rw [hq] at hm; simp at hm
                | cons w' wl => rw [hq] at pl; exact wr_tup pl
section
variable {θ : Nat → Option (Option Nat)} {γ : Nat → Option Nat} {ws : WS} {F : St} {B : Nat}
/-- New marks, of what a call handed over. -/
theorem marks_call (h : Rl θ γ ws F B) {rs : List SV} {lab : Nat} {al' : Nat → Bool} (hB : B ≤ lab) (hrs : rs.length ≤ 60) (hal : ∀ j, F.al j = true → al' j = true) :
    Rl (fun c => if ws.nc ≤ c ∧ c < ws.nc + rs.length then some (some (lab + (c - ws.nc))) else θ c) γ { ws with al := markAl ws.al ws.nc rs, nc := ws.nc + rs.length } { F with al := al' } (lab + 64) := by
  have hnc : ∀ c i, θ c = some i → c < ws.nc := by
    intro c i hc
    rcases Nat.lt_or_ge c ws.nc with h1 | h1
    · exact h1
    · rw [h.f _ h1] at hc; cases hc
  have old : ∀ c, markAl ws.al ws.nc rs c = true → ¬ (ws.nc ≤ c ∧ c < ws.nc + rs.length) → ws.al c = true := by
    intro c hc hn
    rcases markAl_old rs ws.al ws.nc c hc with h1 | h1
    · exact h1
    · exact absurd h1 hn
  refine ⟨h.n, h.H, h.m, fun j => (h.t j).imp ?_ (fun _ _ h => h), ?_, ?_, ?_, h.g⟩
  · intro o own ho
    cases o with
    | no => trivial
    | full => exact ho
    | mine c =>
      obtain ⟨i, hi, ho⟩ := ho
      have hlt := hnc c i hi
      refine ⟨i, by simp only; rw [if_neg (by omega)]; exact hi, fun hc => ?_⟩
      rcases ho (old c hc (by omega)) with h1 | ⟨i', rfl, h1, h2⟩
      · exact .inl h1
      · exact .inr ⟨i', rfl, h1, hal i' h2⟩
  · intro c i hc hci
    split at hci
    · cases hci; omega
    · rename_i e
      have := h.b c i (old c hc e) hci; omega
  · intro c c' i hc hc' hci hci'
    split at hci
    · rename_i e
      split at hci'
      · rename_i e'
        cases hci
        have := Option.some.inj (Option.some.inj hci')
        omega
      · rename_i e'
        cases hci
        have := h.b c' _ (old c' hc' e') hci'; omega
    · rename_i e
      split at hci'
      · rename_i e'
        cases hci'
        have := h.b c _ (old c hc e) hci; omega
      · rename_i e'
        exact h.i c c' i (old c hc e) (old c' hc' e') hci hci'
  · intro c hc
    have hc : ws.nc + rs.length ≤ c := hc
    rw [if_neg (by omega)]
    exact h.f c (by omega)
theorem wcallK_sound {W : WC} {R : Type} {k : WS → Option R} {r : R} {d : Option Nat} {lab : Nat} (hr : Rl θ γ ws F B) (hB : B ≤ lab) {rs : List SV} {y : Tl (dynL rs)} {rv : AV} (hres : ResR rs y rv) {draw : Bool} (h : wcallK W draw ws d k rs y = some r) :
    ∃ ws', k ws' = some r ∧ (sizeR rv ≤ 64 ∧ ∃ F', F.putAl d (adoptR lab rv) (markR lab F.al rv) = some F' ∧ StR ws' F' (lab + 64) ∧ F'.c = F.c) := by
  obtain ⟨us, vs, hf, rfl, hp⟩ := hres
  unfold wcallK at h
  rw [hf] at h
  simp only at h
  · split at h
    · rename_i hc
      split at h
      · rename_i ws' hput
        refine ⟨ws', h, ?_, ?_⟩
        · have hl := partsR_wrl hp
          have hz := hc.2
          match us, vs, hl with
          | [], [], _ => exact Nat.zero_le _
          | [u], [v], hl =>
            have h1 := hl.1
            cases h1 with
            | agg cs as hl h => show as.length ≤ 64; simp only [packW, wsz] at hz; omega
            | tup cs as hl h => show as.length ≤ 64; simp only [packW, wsz] at hz; omega
            | top => simp only [packW, wsz] at hz; omega
            | _ => show 1 ≤ 64; omega
          | u :: u' :: us, v :: v' :: vs, hl =>
            show (v :: v' :: vs).length ≤ 64
            rw [← hl.len]
            simp only [packW, wsz] at hz
            omega
        · have hm := marks_call hr (rs := rs) (lab := lab) (al' := markR lab F.al (packA vs)) hB hc.1 (fun j hj => by simp [markR, hj])
          have hO : ∀ j, j < rs.length → ∀ o, (o = .full ∨ (o = .id (lab + j) ∧ freshR lab (packA vs) (lab + j) = true)) → ownR (markAl ws.al ws.nc rs) (markR lab F.al (packA vs)) (fun c => if ws.nc ≤ c ∧ c < ws.nc + rs.length then some (some (lab + (c - ws.nc))) else θ c) (.mine (ws.nc + j)) o := by
            intro j hj o ho
            refine ⟨some (lab + j), by simp only; rw [if_pos (by omega)]; congr 2; omega, fun _ => ?_⟩
            rcases ho with h1 | ⟨h1, h2⟩
            · exact .inl h1
            · exact .inr ⟨_, rfl, h1, by simp [markR, h2]⟩
          have hw := parts_call (O' := ownR (markAl ws.al ws.nc rs) (markR lab F.al (packA vs)) (fun c => if ws.nc ≤ c ∧ c < ws.nc + rs.length then some (some (lab + (c - ws.nc))) else θ c)) (γ := γ) (fun _ => trivial) rs us vs ws.nc lab hp hO
          obtain ⟨F', p1, p2, p3, _⟩ := put_R hm hw hput
          exact ⟨F', p1, ⟨_, _, p2⟩, p3⟩
      · cases h
    · cases h
end
end Go.Proofs.W
