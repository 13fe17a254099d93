/- One operation, carried out: what the evaluator says of it holds. -/
import Derived.Test.YtnjfjjmlonalhaaDoorK4
import Derived.TacticsIn
namespace Go.Proofs.V
open Go Go.RowKit
set_option linter.unusedVariables false
set_option linter.unusedSimpArgs false

section
variable {E0 : Nat → Prop} {w0 : Ent} {Z : Nat → Prop} {G : Gh} {F : St} {a : Act} {w : World} {P : Program} {lab : Nat}

/-- No fence; in a round, or not. -/
def Fx (ro : Option Nat) : Fence := { Fence.wide with round := ro }
theorem wide_fn {ro : Option Nat} (f : FuncId) : (Fx ro).fn f := trivial
theorem calls_Fx {ro : Option Nat} {n : Nat} {P : Program} {g : Nat} {vs : Array Value} {w : World} {R : Ending → World → Prop} (h : CallsIn Fence.wide n P g vs w R) : CallsIn (Fx ro) n P g vs w R := h
theorem semAt_run {ro : Option Nat} {ρ : Operand → Value} {o : Oper} {P : Program} {w w' : World} {nx : Next} (h : (execOp ρ o).run P w = .ok nx w') (hn : ∀ d, nx ≠ .defer d) : o.semAt ro ρ = execOp ρ o := by
  refine Oper.semAt_eq ro ρ o fun c hc => ?_
  unfold execOp at h
  rw [hc] at h
  simp only [Sem.run_bind] at h
  cases hr : (resolve ρ c o.type).run P w with
  | ok d w1 =>
    rw [hr] at h
    simp only [Result.andThen, Sem.run_pure] at h
    cases h
    exact hn _ rfl
  | halt e w1 => rw [hr] at h; simp [Result.andThen] at h
/-- An operation whose run is known. -/
theorem wp_value {ro : Option Nat} {n : Nat} {o : Oper} {next : Act → World → Prop} {Q : Exit → Act → World → Prop} {v : Value} {w' : World} (hr : (execOp a.eval o).run P w = .ok (.value v) w') (h : next (a.put o.dst v) w') : o.wpIn (Fx ro) n P a w next Q := by
  refine ⟨fun f _ => wide_fn f, ?_⟩
  rw [semAt_run hr (by intro d e; cases e), hr]
  exact h
theorem wp_skip {ro : Option Nat} {n : Nat} {o : Oper} {next : Act → World → Prop} {Q : Exit → Act → World → Prop} {w' : World} (hr : (execOp a.eval o).run P w = .ok .skip w') (h : next (a.put o.dst undef) w') : o.wpIn (Fx ro) n P a w next Q := by
  refine ⟨fun f _ => wide_fn f, ?_⟩
  rw [semAt_run hr (by intro d e; cases e), hr]
  exact h
theorem wp_enter {ro : Option Nat} {n : Nat} {o : Oper} {next : Act → World → Prop} {Q : Exit → Act → World → Prop} {g : Nat} {vs : Array Value} {R : Value → World → Prop} (hr : (execOp a.eval o).run P w = .ok (.enter g vs) w)
    (hc : ∀ n, CallsIn Fence.wide n P g vs w fun e w' => ∃ v, e = .returned v ∧ R v w') (h : ∀ v w', R v w' → next (a.put o.dst v) w') : o.wpIn (Fx ro) n P a w next Q := by
  refine ⟨fun f _ => wide_fn f, ?_⟩
  rw [semAt_run hr (by intro d e; cases e), hr]
  refine ⟨fun hd => (by cases hd), (calls_Fx (hc (n - 1))).mono ?_⟩
  intro e w' he
  obtain ⟨v, rfl, hR⟩ := he
  exact h v w' hR

theorem target_inv {x : AV} {g : Nat} {first captured : List AV} (h : target x = some (g, first, captured)) : x = .fn (.func g) first captured := by
  unfold target at h
  split at h
  · cases h; rfl
  · cases h

theorem evs_get (h : Inv E0 w0 Z G F a w) : ∀ (l : List Operand) (j : Nat) (x : AV) (v : Value), (evs F l)[j]? = some x → (l.map a.eval)[j]? = some v → Opd G F Z x v
  | [], j, x, v, hx, _ => by simp [evs] at hx
  | y :: l, 0, x, v, hx, hv => by simp [evs] at hx hv; subst hx; subst hv; exact opd h y
  | y :: l, j + 1, x, v, hx, hv => evs_get h l j x v (by simpa [evs] using hx) (by simpa using hv)
theorem evs_len (F : St) : ∀ l : List Operand, (evs F l).length = l.length
  | [] => rfl
  | x :: l => by simp [evs, evs_len F l]

/-! ### The test of sameness -/
theorem sameL_eq {α : Type} {f : α → α → Bool} (hf : ∀ x y, f x y = true → x = y) : ∀ (l l' : List α), sameL f l l' = true → l = l'
  | [], [], _ => rfl
  | [], _ :: _, h => by simp [sameL] at h
  | _ :: _, [], h => by simp [sameL] at h
  | x :: xs, y :: ys, h => by
    simp only [sameL, Bool.and_eq_true] at h
    rw [hf x y h.1, sameL_eq hf xs ys h.2]
theorem sameV_eq {u v : Value} (h : sameV u v = true) : u = v := by
  unfold sameV at h
  split at h
  · simp at h; rw [h]
  · simp at h; rw [h.1, h.2]
  · rename_i a b
    simp at h
    cases a; cases b
    simp at h
    rw [h]
  · rfl
  · rfl
  · rfl
  · cases h
theorem sameA_eq : ∀ (d : Nat) (x y : AV), sameA d x y = true → x = y
  | 0, x, y, h => by simp [sameA] at h
  | d + 1, x, y, h => by
    unfold sameA at h
    split at h
    · rw [sameV_eq h]
    · simp only [Bool.and_eq_true, beq_iff_eq, decide_eq_true_eq] at h
      obtain ⟨⟨h1, h2⟩, h3⟩ := h
      rw [sameL_eq (sameL_eq (sameA_eq d)) _ _ h1, h2, h3]
    · simp only [Bool.and_eq_true, beq_iff_eq] at h
      rw [sameL_eq (sameA_eq d) _ _ h.1, h.2]
    · simp only [Bool.and_eq_true, beq_iff_eq] at h
      rw [h.1, h.2]
    · simp only [Bool.and_eq_true, beq_iff_eq] at h
      obtain ⟨⟨⟨⟨h1, h2⟩, h3⟩, h4⟩, h5⟩ := h
      rw [h1, h2, h3, h4, h5]
    · rw [sameL_eq (sameA_eq d) _ _ h]
    · cases h
theorem appendB_some {draw : Bool} {ds : List Nat} {P : Program} {F : St} {lab : Nat} {t : TypeId} {s x : AV} {xt : Option TypeId} {r : AV × (Nat → Bool)} (h : appendB draw ds P F lab t s x xt = some r) : appendA P F lab t s x xt = some r := by
  unfold appendB at h
  split at h
  · cases h
  · exact h
theorem sameH_eq {H H' : List (List AV)} (h : sameH H H' = true) : H = H' := sameL_eq (sameL_eq (sameA_eq 9)) H H' h
theorem drawE_some {cfg : Cfg} {ds : List Nat} {o : Oper} {F F' : St} {r : AV} {H : List (List AV)} (h : drawE cfg ds o F r H = some F') : St.put { F with H := H } o.dst (strip r) = some F' := by
  unfold drawE at h
  split at h
  · split at h
    · exact h
    · cases h
  · split at h
    · rename_i hs
      have e := sameH_eq hs
      subst e
      exact h
    · cases h

/-- Lists side by side. -/
def All2 (R : AV → Value → Prop) (xs : List AV) (vs : List Value) : Prop := vs.length = xs.length ∧ ∀ (j : Nat) (x : AV) (v : Value), xs[j]? = some x → vs[j]? = some v → R x v
theorem All2.append {R : AV → Value → Prop} {xs ys : List AV} {us vs : List Value} (h : All2 R xs us) (k : All2 R ys vs) : All2 R (xs ++ ys) (us ++ vs) := by
  refine ⟨by simp [h.1, k.1], fun j x v hx hv => ?_⟩
  by_cases hj : j < xs.length
  · rw [List.getElem?_append_left hj] at hx
    rw [List.getElem?_append_left (by rw [h.1]; exact hj)] at hv
    exact h.2 j x v hx hv
  · rw [List.getElem?_append_right (by omega)] at hx
    rw [List.getElem?_append_right (by rw [h.1]; omega), h.1] at hv
    exact k.2 _ x v hx hv
theorem All2.map {R R' : AV → Value → Prop} {xs : List AV} {vs : List Value} (h : All2 R xs vs) {f : AV → AV} (hf : ∀ x v, x ∈ xs → R x v → R' (f x) v) : All2 R' (xs.map f) vs := by
  refine ⟨by simp [h.1], fun j x v hx hv => ?_⟩
  rw [List.getElem?_map] at hx
  simp only [Option.map_eq_some_iff] at hx
  obtain ⟨y, hy, rfl⟩ := hx
  exact hf y v (List.mem_of_getElem? hy) (h.2 j y v hy hv)

theorem hpre (h : Inv E0 w0 Z G F a w) : HPre w G.S G.E F.H where
  mem := h.mem
  eH := h.rel.2.2.2.2
  heap l cs hl := by
    obtain ⟨b, vs, h1, h2, h3, h4⟩ := h.obj l cs hl
    exact ⟨b, vs, h1, h4⟩
  inj l l' b h1 h2 := by
    have e1 := (h.objE h1).2.1
    have e2 := (h.objE h2).2.1
    rw [e1] at e2
    cases e2
    rfl
theorem hpre0 (h : Inv E0 w0 Z G F a w) : HPre w G.S noE [] where
  mem := h.mem
  eH l b hb := by cases hb
  heap l cs hl := by simp at hl
  inj l l' b h1 := by cases h1

/-- The contracts that the evaluator leans on. -/
structure Sound (cfg : Cfg) (K : KF) : Prop where
  k : ∀ g as H r H', K g as H = some (r, H') → CSound cfg.P g as H r H'
  x : ∀ g s as r, cfg.ext g = some s → s as = some r → CSound cfg.P g as [] r []

theorem callQ_sound {cfg : Cfg} {K : KF} (hs : Sound cfg K) {g : Nat} {as : List AV} {r : AV} (hq : callQ cfg K g as = some r) :
    ∀ (w : World) (S : Addr → Option Value) (vs : List Value), HPre w S noE [] → (∀ x ∈ as, NoId x) → vs.length = as.length → (∀ (j : Nat) (x : AV) (v : Value), as[j]? = some x → vs[j]? = some v → R1 S noE x v) →
      Does cfg.P g vs.toArray w fun v w' => ∃ S' φ, CPost w S noE r [] v S' noE φ w' := by
  intro w S vs hp hni hl ha
  unfold callQ at hq
  split at hq
  · rename_i s hx
    have := hs.x g s as r hx hq w S noE vs hp hni hl ha
    have conv : ∀ v w', (∃ S' E' φ, CPost w S noE r [] v S' E' φ w') → ∃ S' φ, CPost w S noE r [] v S' noE φ w' := fun v w' ⟨S', E', φ, h⟩ => ⟨S', φ, h.drop (.inl rfl)⟩
    rcases this with ⟨v, w', h1, h2⟩ | ⟨h1, h2⟩
    · exact .inl ⟨v, w', h1, conv v w' h2⟩
    · exact .inr ⟨h1, fun n => (h2 n).mono fun e w' ⟨v, he, hv⟩ => ⟨v, he, conv v w' hv⟩⟩
  · split at hq
    · rename_i r' H' hk
      split at hq
      · rename_i hc
        cases hq
        have := hs.k g as [] r H' hk w S noE vs hp hni hl ha
        have conv : ∀ v w', (∃ S' E' φ, CPost w S noE r H' v S' E' φ w') → ∃ S' φ, CPost w S noE r [] v S' noE φ w' := fun v w' ⟨S', E', φ, h⟩ => ⟨S', φ, h.drop (by simpa using hc)⟩
        rcases this with ⟨v, w', h1, h2⟩ | ⟨h1, h2⟩
        · exact .inl ⟨v, w', h1, conv v w' h2⟩
        · exact .inr ⟨h1, fun n => (h2 n).mono fun e w' ⟨v, he, hv⟩ => ⟨v, he, conv v w' hv⟩⟩
      · cases hq
    · cases hq

theorem Does.wp {ro : Option Nat} {n : Nat} {o : Oper} {next : Act → World → Prop} {Q : Exit → Act → World → Prop} {g : Nat} {vs : Array Value} {R : Value → World → Prop} (hd : Does P g vs w R)
    (he : (execOp a.eval o).run P w = (callFunc g vs).run P w) (h : ∀ v w', R v w' → next (a.put o.dst v) w') : o.wpIn (Fx ro) n P a w next Q := by
  rcases hd with ⟨v, w', h1, h2⟩ | ⟨h1, h2⟩
  · exact wp_value (he.trans h1) (h v w' h2)
  · exact wp_enter (he.trans h1) h2 h

/-- The arguments of a call of a value. -/
theorem call_args (h : Inv E0 w0 Z G F a w) {o : Oper} {f : Operand} {args : Array Operand} {ts : Array TypeId} (ho : o.op = .call { callee := .value f, args, argTypes := ts }) {g : Nat} {first captured : List AV} (ht : target (F.ev f) = some (g, first, captured))
    (hfree : (first ++ evs F args.toList ++ captured).all AV.free = true) :
    ∃ vs : List Value, (execOp a.eval o).run P w = (callFunc g vs.toArray).run P w ∧ All2 (fun x v => R1 G.S G.E x v) ((first ++ evs F args.toList ++ captured).map strip) vs := by
  have hf := (opd h f).rv
  rw [target_inv ht] at hf
  have hf : R1 G.S G.E (.fn (.func g) first captured) (a.eval f) := hf
  generalize hq : a.eval f = q at hf
  cases hf with
  | fn _ _ _ fs cs hf hc h1 h2 =>
    refine ⟨fs ++ args.toList.map a.eval ++ cs, ?_, ?_⟩
    · have e : (fs ++ args.toList.map a.eval ++ cs).toArray = fs.toArray ++ args.map a.eval ++ cs.toArray := by
        rw [toArr a.eval args]; simp
      rw [e]
      simp [execOp, ho, resolve, hq, Deferred.ofValue, invoke, Sem.run_bind]
    · have hall := List.all_eq_true.1 hfree
      have q : All2 (RV G) (first ++ evs F args.toList ++ captured) (fs ++ args.toList.map a.eval ++ cs) := by
        refine (All2.append ⟨hf, fun j x v hx hv => RV_of (h1 j x v hx hv)⟩ ⟨by simp [evs_len], fun j x v hx hv => (evs_get h _ j x v hx hv).rv⟩).append ⟨hc, fun j x v hx hv => RV_of (h2 j x v hx hv)⟩
      exact q.map fun x v hx hr => strip_R1 (R1_of hr (hall x hx))

theorem opV_sound {ro : Option Nat} {cfg : Cfg} {K : KF} (hs : Sound cfg K) (h : Inv E0 w0 Z G F a w) (hz : ∀ n, Z1 lab n → ¬ Z n) {draw : Bool} {ds : List Nat} {o : Oper} {F' : St} (hr : opRunV cfg K draw ds lab o F = some F')
    (hdst : o.dst.isSome = true ∨ ∃ t p x, o.op = .store t p x) {n : Nat} {next : Act → World → Prop} {Q : Exit → Act → World → Prop} (hn : ∀ G' a' w', Inv E0 w0 (fun n => Z n ∨ Z1 lab n) G' F' a' w' → next a' w') :
    o.wpIn (Fx ro) n cfg.P a w next Q := by
  have hz' : ∀ n, Z n → ¬ Z1 lab n := fun n h1 h2 => hz n h2 h1
  -- a value put
  have fin : ∀ {x : AV}, F.put o.dst x = some F' → (∀ d, d < F.n → Yields E0 w0 Z lab d G F a w cfg.P o x) → (∃ d, o.dst = some d) → o.wpIn (Fx ro) n cfg.P a w next Q := by
    rintro x hp hy ⟨d, hd⟩
    rw [hd] at hp
    simp only [St.put] at hp
    split at hp
    · rename_i hlt
      cases hp
      obtain ⟨v, w', G', h1, h2⟩ := hy d hlt
      refine wp_value h1 (hn G' _ _ ?_)
      rw [hd]
      exact h2
    · cases hp
  have dsome : (∀ t p x, o.op ≠ .store t p x) → ∃ d, o.dst = some d := fun hne => by
    rcases hdst with h1 | ⟨t, p, x, h1⟩
    · exact Option.isSome_iff_exists.1 h1
    · exact (hne t p x h1).elim
  unfold opRunV at hr
  split at hr
  · -- store
    rename_i t p x ho
    split at hr
    · rename_i m hm
      split at hr
      · rename_i hc
        simp only [Option.bind_eq_some_iff] at hr
        obtain ⟨F1, hw, hp⟩ := hr
        obtain ⟨w', h1, h2⟩ := inv_store h ho hm hc.1.1 hc.1.2 hw
        refine wp_skip h1 (hn G _ _ ?_)
        cases hd : o.dst with
        | none =>
          rw [hd] at hp
          cases hp
          exact h2.zmono fun n hn => .inl hn
        | some d =>
          rw [hd] at hp
          simp only [St.put] at hp
          split at hp
          · rename_i hlt
            cases hp
            refine (h2.set hlt (by intro g cs h; cases h) ?_ ?_ ?_).zmono fun n hn => .inl hn
            · exact R1.tup [] [] rfl (fun j x v hx => by simp at hx)
            · intro j y u hy; simp [parts, und] at hy
            · rintro n ⟨y, hy, _⟩; simp [parts, und] at hy
          · cases hp
      · cases hr
    · cases hr
  · -- makeFunc
    rename_i f first captured ho
    split at hr
    · rename_i fs F1 h1
      split at hr
      · rename_i cs F2 h2
        obtain ⟨d, hd⟩ := dsome (by intro t p x hh; rw [ho] at hh; cases hh)
        rw [hd] at hr
        simp only [St.put] at hr
        split at hr
        · rename_i hlt
          cases hr
          obtain ⟨v, G', q1, q2⟩ := makeFunc_sound (P := cfg.P) h ho h1 h2 hlt
          refine wp_value q1 (hn G' _ _ ?_)
          rw [hd]
          exact q2.zmono fun n hn => .inl hn
        · cases hr
      · cases hr
    · cases hr
  · -- call
    rename_i c ho
    have dex := dsome (by intro t p x hh; rw [ho] at hh; cases hh)
    obtain ⟨callee, args, ts⟩ := c
    dsimp only at hr
    split at hr
    · -- append
      split at hr
      · rename_i s x t hargs ht
        simp only [Option.bind_eq_some_iff] at hr
        obtain ⟨⟨v, al'⟩, hv, hp⟩ := hr
        replace hv := appendB_some hv
        obtain ⟨d, hd⟩ := dex
        have ea : args = #[s, x] := by
          rw [← Array.toArray_toList (xs := args), hargs]
        subst ea
        rw [hd] at hp
        simp only [St.putAl, St.put] at hp
        split at hp
        · rename_i hlt
          cases hp
          obtain ⟨r, w', G', q1, q2⟩ := append_sound h hz hlt ho ht hv
          refine wp_value q1 (hn G' _ _ ?_)
          rw [hd]
          exact q2
        · cases hp
      · cases hr
    · -- builtin
      rename_i b hb hcal
      simp only [Option.bind_eq_some_iff] at hr
      obtain ⟨v, hv, hp⟩ := hr
      exact fin hp (fun d hd => builtin_sound h hd ho hv) dex
    · -- a value
      rename_i f
      split at hr
      · rename_i g first captured ht
        split at hr
        · rename_i hfree
          obtain ⟨vs, he, hall⟩ := call_args (P := cfg.P) h ho ht hfree
          obtain ⟨d, hd⟩ := dex
          have hni : ∀ x ∈ (first ++ evs F args.toList ++ captured).map strip, NoId x := by
            intro x hx
            obtain ⟨y, hy, rfl⟩ := List.mem_map.1 hx
            have := List.all_eq_true.1 hfree y hy
            exact noId_strip (by rintro g cs rfl; cases this)
          split at hr
          · -- it turns the heap
            split at hr
            · simp only [Option.bind_eq_some_iff] at hr
              obtain ⟨⟨r, H'⟩, hk, hr⟩ := hr
              replace hr := drawE_some hr
              dsimp only at hr
              rw [hd] at hr
              simp only [St.put] at hr
              split at hr
              · rename_i hlt
                cases hr
                refine (hs.k g _ _ _ _ hk w G.S G.E vs (hpre h) hni hall.1 hall.2).wp he ?_
                rintro v w' ⟨S', E', φ, hc⟩
                refine hn (Gcall G w lab r S' E' φ) _ _ ?_
                rw [hd]
                exact inv_call_bare h hc hz' hlt
              · cases hr
            · simp only [Option.bind_eq_some_iff] at hr
              obtain ⟨⟨r, H'⟩, hk, hr⟩ := hr
              split at hr
              · rename_i hsz
                rw [hd] at hr
                simp only [St.putAl, St.put] at hr
                split at hr
                · rename_i hlt
                  cases hr
                  refine (hs.k g _ _ _ _ hk w G.S G.E vs (hpre h) hni hall.1 hall.2).wp he ?_
                  rintro v w' ⟨S', E', φ, hc⟩
                  refine hn (Gcall G w lab r S' E' φ) _ _ ?_
                  rw [hd]
                  exact inv_call h hc hz' hsz hlt
                · cases hr
              · cases hr
          · split at hr
            · rename_i hne hpure
              simp only [Option.bind_eq_some_iff] at hr
              obtain ⟨r, hq, hr⟩ := hr
              have hargs : ∀ (j : Nat) (x : AV) (v : Value), ((first ++ evs F args.toList ++ captured).map strip)[j]? = some x → vs[j]? = some v → R1 G.S noE x v := by
                intro j x v hx hv
                have hr1 := hall.2 j x v hx hv
                simp only [Bool.or_eq_true] at hpure
                rcases hpure with hp | hp
                · refine R1.mono (fun _ _ h => h) (fun l b hb => ?_) hr1
                  have := h.rel.2.2.2.2 l b hb
                  simp only [Bool.and_eq_true] at hp
                  replace hp := hp.2
                  simp at hp
                  rw [hp] at this
                  simp at this
                · exact nohp_R1 9 (List.all_eq_true.1 hp x (List.mem_of_getElem? hx)) hr1
              have hD := callQ_sound hs hq w G.S vs (hpre0 h) hni hall.1 hargs
              refine hD.wp he ?_
              rintro v w' ⟨S', φ, hc⟩
              have hc := CPost.lift h hc
              rw [hd] at hr
              split at hr
              · simp only [St.put] at hr
                split at hr
                · rename_i hlt
                  cases hr
                  refine hn (Gcall G w lab r S' G.E φ) _ _ ?_
                  rw [hd]
                  exact inv_call_bare h hc hz' hlt
                · cases hr
              · split at hr
                · rename_i hsz
                  simp only [St.putAl, St.put] at hr
                  split at hr
                  · rename_i hlt
                    cases hr
                    refine hn (Gcall G w lab r S' G.E φ) _ _ ?_
                    rw [hd]
                    exact inv_call h hc hz' hsz hlt
                  · cases hr
                · cases hr
            · cases hr
        · cases hr
      · cases hr
    · cases hr
  · -- the quiet ones
    rename_i op hne1 hne2 hne3
    simp only [Option.bind_eq_some_iff] at hr
    obtain ⟨v, hv, hp⟩ := hr
    exact fin hp (fun d hd => quiet_sound h hz hd hv) (dsome hne1)
def Gh.addObj (G : Gh) (l b : Nat) : Gh := { G with E := fun k => if k = l then some b else G.E k, u := fun k => if k = b then some (.obj l) else G.u k }
/-- What is laid on the heap. -/
theorem inv_alloc (h : Inv E0 w0 Z G F a w) {cs : List AV} {vs : Array Value} {ty : TypeId} (hp : PW G cs vs) :
    Inv E0 w0 Z (G.addObj F.H.length w.heap.size) { F with H := F.H ++ [cs] } a (w.alloc (.cells vs ty)) := by
  have hEn : G.E F.H.length = none := by
    cases he : G.E F.H.length with
    | none => rfl
    | some b => have := h.rel.2.2.2.2 _ _ he; omega
  have hE : ∀ l b, G.E l = some b → (if l = F.H.length then some w.heap.size else G.E l) = some b := by
    intro l b hb
    rw [if_neg]
    · exact hb
    · rintro rfl; rw [hEn] at hb; cases hb
  have hold : ∀ b, b < w.heap.size → (w.alloc (.cells vs ty)).heap[b]? = w.heap[b]? := fun b hb => Below.heap_alloc w _ b hb
  have hu : ∀ b, b < w.heap.size → (if b = w.heap.size then some (Tg.obj F.H.length) else G.u b) = G.u b := fun b hb => by rw [if_neg (by omega)]
  have hnew : (w.alloc (.cells vs ty)).heap[w.heap.size]? = some (.cells vs ty (0, 0)) := by
    show (w.heap.push _)[w.heap.size]? = _
    simp
  have hH1 : ∀ {b : Nat} {cs : List AV} {us : Array Value}, b < w.heap.size → Holds1 G w b cs us → Holds1 (G.addObj F.H.length w.heap.size) (w.alloc (.cells vs ty)) b cs us := by
    rintro b cs us hb ⟨⟨t, g1⟩, g2, g3, g4, g5⟩
    exact ⟨⟨t, (hold b hb).trans g1⟩, g2, g3, fun j x v hx hv => R1.mono (fun _ _ h => h) hE (g4 j x v hx hv), g5⟩
  have hSnew : ∀ ad : Addr, ad.block = w.heap.size → G.S ad = none := by
    intro ad hb
    cases hS : G.S ad with
    | none => rfl
    | some v => have := h.mem.lt hS; omega
  refine ⟨h.nsz, h.df, fun i => RV.mono (G := G) (G' := G.addObj F.H.length w.heap.size) (fun _ _ h => h) hE (fun _ _ h => h) (h.slot i), h.cl, h.ids, fun ad v hv => ?_, h.bel.trans ⟨rfl, rfl, rfl, by simp, fun k hk _ => hold k hk⟩,
    ⟨h.rel.1, h.rel.2.1, fun l b hb => hE _ _ (h.rel.2.2.1 l b hb), fun l b h0 hb => ?_, fun l b hb => ?_⟩, fun i g cs' hc => ?_, fun n ha => ?_, fun l cs' hl => ?_, h.zB, h.zal, fun b hb => ?_, fun b o hb => by
      obtain ⟨p1, p2, p3⟩ := h.pro b o hb
      have hlt := (Array.getElem?_eq_some_iff.1 p1).1
      exact ⟨(hold b hlt).trans p1, (hu b hlt).trans p2, p3⟩, h.bm⟩
  · have := h.mem.lt hv
    rw [World.cell?_of_block (w := w) (hold _ this)]
    exact h.mem ad v hv
  · have hb : (if l = F.H.length then some w.heap.size else G.E l) = some b := hb
    split at hb
    · cases hb; exact h.bel.size
    · exact h.rel.2.2.2.1 l b h0 hb
  · have hb : (if l = F.H.length then some w.heap.size else G.E l) = some b := hb
    show l < (F.H ++ [cs]).length
    simp only [List.length_append, List.length_singleton]
    split at hb
    · omega
    · have := h.rel.2.2.2.2 l b hb; omega
  · obtain ⟨b, us, h1, h2, h3, h4, h5⟩ := h.box i g cs' hc
    have hb := h.live b (by rw [h3]; rfl)
    exact ⟨b, us, h1, h2, (hu b hb).trans h3, hH1 hb h4, h5⟩
  · obtain ⟨h1, h2, ⟨us, t, h3, h3'⟩, h4, h5⟩ := h.row n ha
    have hb := h.live _ (by rw [h2]; rfl)
    exact ⟨h1, (hu _ hb).trans h2, ⟨us, t, (hold _ hb).trans h3, h3'⟩, h4, h5⟩
  · have hl : (F.H ++ [cs])[l]? = some cs' := hl
    by_cases hlt : l < F.H.length
    · rw [List.getElem?_append_left hlt] at hl
      obtain ⟨b, us, h1, h2, h3, h4⟩ := h.obj l cs' hl
      have hb := h.live b (by rw [h3]; rfl)
      exact ⟨b, us, hE _ _ h1, h2, (hu b hb).trans h3, hH1 hb h4⟩
    · have hle : l = F.H.length := by
        have := (List.getElem?_eq_some_iff.1 hl).1
        simp at this
        omega
      subst hle
      simp at hl
      subst hl
      refine ⟨w.heap.size, vs, if_pos rfl, .inl h.bel.size, if_pos rfl, ⟨ty, hnew⟩, hp.1, hp.2.1, fun j x v hx hv => R1.mono (fun _ _ h => h) hE (hp.2.2 j x v hx hv), hSnew⟩
  · have hb : (if b = w.heap.size then some (Tg.obj F.H.length) else G.u b).isSome = true := hb
    split at hb
    · rename_i e; subst e; simp
    · have := h.live b hb; simp; omega

theorem RW.flat {G : Gh} {sz : Nat} {rows : List (List AV)} {vs : Array Value} (h : RW G sz rows vs) (hpos : 0 < sz) : PW G rows.flatten vs := by
  have hlen : ∀ (rows : List (List AV)), (∀ r ∈ rows, r.length = sz) → rows.flatten.length = rows.length * sz := by
    intro rows
    induction rows with
    | nil => intro _; simp
    | cons r rs ih =>
      intro hr
      simp only [List.flatten_cons, List.length_append, List.length_cons, ih fun x hx => hr x (by simp [hx]), hr r (by simp)]
      rw [Nat.add_mul, Nat.one_mul, Nat.add_comm]
  have hget : ∀ (rows : List (List AV)), (∀ r ∈ rows, r.length = sz) → ∀ (k : Nat) (x : AV), rows.flatten[k]? = some x → cellAt rows (k / sz) (k % sz) = some x := by
    intro rows
    induction rows with
    | nil => intro _ k x hx; simp at hx
    | cons r rs ih =>
      intro hr k x hx
      have hrl := hr r (by simp)
      simp only [List.flatten_cons] at hx
      by_cases hk : k < sz
      · rw [List.getElem?_append_left (by omega)] at hx
        rw [Nat.div_eq_of_lt hk, Nat.mod_eq_of_lt hk]
        simpa [cellAt] using hx
      · rw [List.getElem?_append_right (by omega), hrl] at hx
        have := ih (fun x hx => hr x (by simp [hx])) _ _ hx
        have e1 : k / sz = (k - sz) / sz + 1 := by rw [← Nat.sub_add_cancel (Nat.le_of_not_lt hk), Nat.add_div_right _ hpos]; simp
        have e2 : k % sz = (k - sz) % sz := by rw [← Nat.sub_add_cancel (Nat.le_of_not_lt hk), Nat.add_mod_right]; simp
        rw [e1, e2]
        simpa [cellAt] using this
  refine ⟨by rw [h.1, hlen rows h.2.1], fun x hx => ?_, fun k x v hx hv => ?_⟩
  · obtain ⟨k, hk⟩ := List.getElem?_of_mem hx
    exact h.2.2.1 _ _ _ (hget rows h.2.1 k x hk)
  · obtain ⟨u, e1, e2⟩ := h.2.2.2 _ _ _ (hget rows h.2.1 k x hx)
    rw [show k / sz * sz + k % sz = k by rw [Nat.mul_comm]; exact Nat.div_add_mod k sz, hv] at e1
    cases e1
    exact e2

theorem allocH_sound (h : Inv E0 w0 Z G F a w) {o : Oper} {cs : List AV} {x : AV} (ha : allocH P F o.op = some (cs, x)) {d : Nat} (hd : d < F.n) :
    ∃ v w' G', (execOp a.eval o).run P w = .ok (.value v) w' ∧ Inv E0 w0 Z G' { F with H := F.H ++ [cs], t := upd F.t d x } (a.put (some d) v) w' := by
  have fin : ∀ (vs : Array Value) (ty : TypeId) (v : Value), PW G cs vs → (execOp a.eval o).run P w = .ok (.value v) (w.alloc (.cells vs ty)) → R1 G.S (fun l => if l = F.H.length then some w.heap.size else G.E l) x v → NoId x →
      ∃ v w' G', (execOp a.eval o).run P w = .ok (.value v) w' ∧ Inv E0 w0 Z G' { F with H := F.H ++ [cs], t := upd F.t d x } (a.put (some d) v) w' := by
    intro vs ty v hp hrun hx hni
    have h1 := inv_alloc (ty := ty) h hp
    refine ⟨v, _, _, hrun, h1.set hd hx.nobox (RV_of hx) (Cl_of_noId hni) fun n hn => (hni n hn).elim⟩
  generalize ho : o.op = op at ha
  have rowcase : ∀ {rows : List (List AV)} {own : Own} {sz : Nat}, (∃ us ty, (execOp a.eval o).run P w = .ok (.value (.slice (some ⟨w.heap.size, 0, none⟩) rows.length rows.length)) (w.alloc (.cells us ty)) ∧ RW G sz rows us) → sz ≠ 0 → cs = rows.flatten → x = .hs F.H.length 0 rows.length rows.length sz →
      ∃ v w' G', (execOp a.eval o).run P w = .ok (.value v) w' ∧ Inv E0 w0 Z G' { F with H := F.H ++ [cs], t := upd F.t d x } (a.put (some d) v) w' := by
    rintro rows own sz ⟨us, ty, hrun, hRW⟩ hne rfl rfl
    refine fin us ty _ (hRW.flat (Nat.pos_of_ne_zero hne)) hrun (.hs _ _ _ _ _ _ (by simp)) ?_
    rintro n ⟨y, hy, rows, nl, rfl⟩; simp [parts] at hy
  cases op <;> simp only [allocH] at ha <;> first | (cases ha; done) | skip
  case alloc e =>
    split at ha
    · simp only [Option.map_eq_some_iff] at ha
      obtain ⟨c, hc, he⟩ := ha
      cases he
      obtain ⟨i, z, h1, h2, rfl, hp, hl⟩ := tzero_info hc
      refine fin z.cells e (.pointer (some ⟨w.heap.size, 0, none⟩)) ⟨hl.symm, hp, absV_cells G z hp⟩ ?_ (.hp _ _ _ (by simp)) ?_
      · simp [execOp, ho, Instr.alloc, Sem.run_bind, run_zero h1 h2, newVar, newRow]
      · rintro n ⟨y, hy, rows, nl, rfl⟩; simp [parts] at hy
    · cases ha
  case box e y =>
    split at ha
    · rename_i hc
      simp only [Bool.and_eq_true] at hc
      cases ha
      have hr := opd_R1 (opd h y) (storable_free hc.2)
      refine fin (a.eval y).cells e (.pointer (some ⟨w.heap.size, 0, none⟩)) (cells_R1 hr hc.2).strip ?_ (.hp _ _ _ (by simp)) ?_
      · simp [execOp, ho, Instr.box, Sem.run_bind, newVar, newRow]
      · rintro n ⟨y, hy, rows, nl, rfl⟩; simp [parts] at hy
    · cases ha
  case buildSlice t len ps =>
    split at ha
    · split at ha
      · rename_i rows own sz hq hsz
        split at ha
        · cases ha
        · cases ha
          simp only [quiet] at hq
          split at hq
          · rename_i e he
            split at hq
            · rename_i z sz' h1 h2
              split at hq
              · rename_i hc
                simp only [Option.map_eq_some_iff] at hq
                obtain ⟨rows', hr, hre⟩ := hq
                cases hre
                have hss : sz' = sz := by
                  rw [he] at hsz
                  simp only [Option.bind_some] at hsz
                  rw [h2] at hsz
                  exact Option.some.inj hsz
                subst hss
                exact rowcase (own := .no) (buildSlice_run h ho he h1 h2 hc hr) hc.2.2 rfl rfl
              · cases hq
            · cases hq
          · cases hq
      · cases ha
    · cases ha
  case makeSlice t y z =>
    split at ha
    · split at ha
      · rename_i rows own sz hq hsz
        split at ha
        · cases ha
        · cases ha
          simp only [quiet] at hq
          split at hq
          · rename_i e n k he hn hk
            split at hq
            · rename_i zc sz' by_ h1 h2 h3
              split at hq
              · rename_i hc
                obtain ⟨rfl, c1, c2, c3, c4, c5⟩ := hc
                cases hq
                have hss : sz' = sz := by
                  rw [he] at hsz
                  simp only [Option.bind_some] at hsz
                  rw [h2] at hsz
                  exact Option.some.inj hsz
                subst hss
                exact rowcase (own := .no) (makeSlice_run h ho he hn hk h1 h2 h3 c1 c2 c3 c4 c5) c5 rfl rfl
              · cases hq
            · cases hq
          · cases hq
      · cases ha
    · cases ha

theorem op_sound {ro : Option Nat} {cfg : Cfg} {K : KF} (hs : Sound cfg K) (h : Inv E0 w0 Z G F a w) (hz : ∀ n, Z1 lab n → ¬ Z n) {draw : Bool} {ds : List Nat} {o : Oper} {F' : St} (hr : opRun cfg K draw ds lab o F = some F')
    (hdst : o.dst.isSome = true ∨ ∃ t p x, o.op = .store t p x) {n : Nat} {next : Act → World → Prop} {Q : Exit → Act → World → Prop} (hn : ∀ G' a' w', Inv E0 w0 (fun n => Z n ∨ Z1 lab n) G' F' a' w' → next a' w') :
    o.wpIn (Fx ro) n cfg.P a w next Q := by
  unfold opRun at hr
  split at hr
  · rename_i cs x ha
    split at hr
    · cases hr
    · rcases hdst with h1 | ⟨t, p, y, h1⟩
      · obtain ⟨d, hd⟩ := Option.isSome_iff_exists.1 h1
        rw [hd] at hr
        simp only [St.put] at hr
        split at hr
        · rename_i hlt
          cases hr
          obtain ⟨v, w', G', e1, e2⟩ := allocH_sound h ha hlt
          refine wp_value e1 (hn G' _ _ ?_)
          rw [hd]
          exact e2.zmono fun n hn => .inl hn
        · cases hr
      · rw [h1] at ha
        simp [allocH] at ha
  · exact opV_sound hs h hz hr hdst hn
end
end Go.Proofs.V
namespace Go.Proofs.V
open Go Go.RowKit
set_option linter.unusedVariables false
set_option linter.unusedSimpArgs false

/-- What an operation reads is the same. -/
structure Agree (ops : Array Oper) (ds : List Nat) (o : Oper) (F F' : St) : Prop where
  n : F'.n = F.n
  H : F'.H = F.H ∨ blind ds = true
  look : ∀ t ∈ o.looksAt ops, F'.t t = F.t t
  rest : ∀ t, ds.contains t = false → F'.t t = F.t t
  m : F'.m = F.m

section
variable {ops : Array Oper} {ds : List Nat} {o : Oper} {F F' : St} {P : Program} {lab : Nat}

theorem Agree.ev (h : Agree ops ds o F F') {x : Operand} (hx : x ∈ o.op.operands) : F'.ev x = F.ev x := by
  cases x with
  | tmp t =>
    have : F'.t t = F.t t := h.look t (List.mem_append_left _ (List.mem_filterMap.2 ⟨.tmp t, by simpa using hx, rfl⟩))
    simp only [St.ev, St.tmp, this]
  | _ => rfl
theorem Agree.lookAt (h : Agree ops ds o F F') (y : AV) : F'.look ds y = F.look ds y := by
  cases y with
  | fp g t off =>
    simp only [St.look]
    by_cases hc : ds.contains t = true
    · simp only [hc, if_true]
    · have : ds.contains t = false := by simpa using hc
      simp only [this, h.rest t this]
  | hp l off =>
    simp only [St.look]
    by_cases hb : blind ds = true
    · rw [if_pos hb, if_pos hb]
    · rw [if_neg hb, if_neg hb, h.H.resolve_right hb]
  | _ => rfl
theorem Agree.lookD (h : Agree ops ds o F F') {p : Operand} (hp : p ∈ o.op.operands) : F'.look (dsL ds p) (F.ev p) = F.look (dsL ds p) (F.ev p) := by
  unfold dsL
  split
  · rename_i q
    split
    · have hq : F'.t q = F.t q := h.look q (List.mem_append_left _ (List.mem_filterMap.2 ⟨.tmp q, by simpa using hp, rfl⟩))
      cases F.ev (.tmp q) with
      | fp g t off =>
        simp only [St.look]
        by_cases hc : (ds.filter (fun e => e != q || e == SP)).contains t = true
        · simp only [hc, if_true]
        · have hc' : (ds.filter (fun e => e != q || e == SP)).contains t = false := by simpa using hc
          simp only [hc']
          have ht : F'.t t = F.t t := by
            by_cases e : t = q
            · subst e; exact hq
            · refine h.rest t ?_
              cases hd : ds.contains t with
              | false => rfl
              | true =>
                exfalso
                apply hc
                simp only [List.contains_eq_mem, List.mem_filter, decide_eq_true_eq] at hd ⊢
                exact ⟨hd, by simp [e]⟩
          simp only [ht]
      | hp l off =>
        simp only [St.look]
        have hb : blind (ds.filter (fun e => e != q || e == SP)) = blind ds := by
          unfold blind
          cases hd : ds.contains SP with
          | true =>
            simp only [List.contains_eq_mem, List.mem_filter, decide_eq_true_eq] at hd ⊢
            exact ⟨hd, by simp⟩
          | false =>
            simp only [List.contains_eq_mem, List.mem_filter, decide_eq_false_iff_not] at hd ⊢
            exact fun hc => hd hc.1
        rw [hb]
        by_cases hb : blind ds = true
        · rw [if_pos hb, if_pos hb]
        · rw [if_neg hb, if_neg hb, h.H.resolve_right hb]
      | _ => rfl
    · exact h.lookAt _
  · exact h.lookAt _
theorem Agree.evs (h : Agree ops ds o F F') : ∀ {l : List Operand}, (∀ x ∈ l, x ∈ o.op.operands) → evs F' l = evs F l
  | [], _ => rfl
  | x :: l, hl => by simp only [V.evs, h.ev (hl x (by simp)), h.evs (l := l) fun y hy => hl y (by simp [hy])]
theorem Agree.optMap (h : Agree ops ds o F F') {x : Option Operand} (hl : ∀ y, x = some y → y ∈ o.op.operands) : x.map F'.ev = x.map F.ev := by
  cases x with
  | none => rfl
  | some y => simp only [Option.map_some, h.ev (hl y rfl)]
theorem Agree.mapParts (h : Agree ops ds o F F') {l : List (Nat × Operand)} (hl : ∀ p ∈ l, p.2 ∈ o.op.operands) : l.map (fun p => (p.1, F'.ev p.2)) = l.map (fun p => (p.1, F.ev p.2)) :=
  List.map_congr_left fun p hp => by rw [h.ev (hl p hp)]

theorem Agree.quiet (h : Agree ops ds o F F') : quiet P F' ds lab o.op = quiet P F ds lab o.op := by
  have hev := fun x hx => h.ev (x := x) hx
  have hlk := h.lookAt
  generalize ho : o.op = op at hev ⊢
  cases op <;> simp only [V.quiet]
  case move x => rw [hev x (by simp [Op.operands])]
  case assign x => rw [hev x (by simp [Op.operands])]
  case pick c a b => rw [hev a (by simp [Op.operands]), hev b (by simp [Op.operands]), hev c (by simp [Op.operands])]
  case box e x => rw [hev x (by simp [Op.operands])]
  case build t parts => rw [h.mapParts (l := parts.toList) (fun p hp => by rw [ho]; simp only [Op.operands]; simp; exact ⟨p.1, by simpa using hp⟩)]
  case buildSlice t len parts => rw [h.mapParts (l := parts.toList) (fun p hp => by rw [ho]; simp only [Op.operands]; simp; exact ⟨p.1, by simpa using hp⟩)]
  case makeSlice t x y => rw [hev x (by simp [Op.operands]), hev y (by simp [Op.operands])]
  case load t p => rw [hev p (by simp [Op.operands]), h.lookD (p := p) (by rw [ho]; simp [Op.operands])]
  case nilCheck x => rw [hev x (by simp [Op.operands])]
  case binOp op xt x y z => rw [hev x (by simp [Op.operands]), hev y (by simp [Op.operands])]
  case unOp op t x => rw [hev x (by simp [Op.operands])]
  case convert s d x => rw [hev x (by simp [Op.operands])]
  case slice t x lo hi mx =>
    rw [hev x (by simp [Op.operands]), h.optMap (x := lo) (fun y hy => by rw [ho]; subst hy; simp [Op.operands]), h.optMap (x := hi) (fun y hy => by rw [ho]; subst hy; simp [Op.operands]), h.optMap (x := mx) (fun y hy => by rw [ho]; subst hy; simp [Op.operands])]
  case fieldAddr t x i => rw [hev x (by simp [Op.operands])]
  case field t x i => rw [hev x (by simp [Op.operands])]
  case indexAddr t x i => rw [hev x (by simp [Op.operands]), hev i (by simp [Op.operands])]
  case index t x i => rw [hev x (by simp [Op.operands]), hev i (by simp [Op.operands])]
  case extract x i => rw [hev x (by simp [Op.operands])]

theorem Agree.guard (h : Agree ops ds o F F') : guardA ops o F' = guardA ops o F := by
  unfold guardA
  split
  · rfl
  · rename_i j want hg
    split
    · rfl
    · rename_i d hd
      have : F'.t d = F.t d := h.look d (List.mem_append_right _ (by simp [hg, hd]))
      rw [this, h.n]

/-- The value of an operation that turns its own slot alone. -/
def val0 (cfg : Cfg) (K : KF) (ds : List Nat) (lab : Nat) (o : Oper) (F : St) : Option AV :=
  if (allocH cfg.P F o.op).isSome then none else
  match o.op with
  | .store .. => none
  | .makeFunc .. => none
  | .call c => match c.callee with
    | .builtin .append => none
    | .builtin b => builtinA cfg.P b c.argTypes o.type (c.args.map isConstOp) (evs F c.args.toList)
    | .value f => match target (F.ev f) with
      | some (g, first, captured) =>
        if (first ++ evs F c.args.toList ++ captured).all AV.free then
          if cfg.eff g then if blind ds then none else (K g ((first ++ evs F c.args.toList ++ captured).map strip) F.H).bind fun (r, H) => if sameH H F.H then some (strip r) else none
          else if (!(true && blind ds) && F.H.isEmpty) || ((first ++ evs F c.args.toList ++ captured).map strip).all (nohp 9) then (callQ cfg K g ((first ++ evs F c.args.toList ++ captured).map strip)).map strip else none
        else none
      | none => none
    | .invoke .. => none
  | op => quiet cfg.P F ds lab op
theorem opRun0 {cfg : Cfg} {K : KF} (hk : kindOf o.op = 0) (hnh : (heavyOp cfg o.op && blind ds) = false) : opRun cfg K true ds lab o F = (val0 cfg K ds lab o F).bind fun v => F.put o.dst v := by
  unfold opRun val0
  cases ha : allocH cfg.P F o.op with
  | some p => simp
  | none =>
  simp only [Option.isSome_none, Bool.false_eq_true, if_false]
  unfold opRunV
  have hE : ∀ r H, drawE cfg ds o F r H = (if blind ds then none else if sameH H F.H then some (strip r) else none).bind fun v => F.put o.dst v := by
    intro r H
    unfold drawE
    by_cases hb : blind ds = true
    · rw [if_pos hb, if_pos hb]
      rw [hb, Bool.and_true] at hnh
      rw [hnh]
      rfl
    · rw [if_neg hb, if_neg hb]
      by_cases h4 : sameH H F.H = true
      · rw [if_pos h4, if_pos h4]; rfl
      · rw [if_neg h4, if_neg h4]; rfl
  clear hnh
  generalize ho : o.op = op at hk ⊢
  cases op with
  | store t p x => simp [kindOf] at hk
  | makeFunc f a b => simp [kindOf] at hk
  | call c =>
    obtain ⟨callee, args, ts⟩ := c
    cases callee with
    | builtin b =>
      cases b <;> first | (simp [kindOf] at hk; done) | rfl
    | value f =>
      simp only []
      generalize target (F.ev f) = T
      cases T with
      | none => rfl
      | some p =>
        obtain ⟨g, first, captured⟩ := p
        simp only []
        by_cases h1 : (first ++ evs F args.toList ++ captured).all AV.free = true
        · rw [if_pos h1, if_pos h1]
          by_cases h2 : cfg.eff g = true
          · rw [if_pos h2, if_pos h2]
            cases hk : K g (List.map strip (first ++ evs F args.toList ++ captured)) F.H with
            | none =>
              simp only [if_true, Option.bind_none]
              split <;> rfl
            | some p =>
              obtain ⟨r, H⟩ := p
              simp only [if_true, Option.bind_some]
              rw [hE]
          · rw [if_neg h2, if_neg h2]
            by_cases h3 : ((!(true && blind ds) && F.H.isEmpty) || ((first ++ evs F args.toList ++ captured).map strip).all (nohp 9)) = true
            · rw [if_pos h3, if_pos h3]
              cases callQ cfg K g (List.map strip (first ++ evs F args.toList ++ captured)) <;> rfl
            · rw [if_neg h3, if_neg h3]; rfl
        · rw [if_neg h1, if_neg h1]; rfl
    | invoke a b => rfl
  | _ => rfl
/-- An effectful call where an order is drawn: its value, and the heap behind it. -/
def valH (cfg : Cfg) (K : KF) (o : Oper) (F : St) : Option (AV × List (List AV)) :=
  match o.op with
  | .call c => match c.callee with
    | .value f => match target (F.ev f) with
      | some (g, first, captured) =>
        if (first ++ evs F c.args.toList ++ captured).all AV.free then
          if cfg.eff g then (K g ((first ++ evs F c.args.toList ++ captured).map strip) F.H).map fun p => (strip p.1, p.2) else none
        else none
      | none => none
    | _ => none
  | _ => none
theorem opRunH {cfg : Cfg} {K : KF} (hh : heavyOp cfg o.op = true) (hb : blind ds = true) : opRun cfg K true ds lab o F = (valH cfg K o F).bind fun r => St.put { F with H := r.2 } o.dst r.1 := by
  unfold opRun valH
  have hE : ∀ r H, drawE cfg ds o F r H = St.put { F with H := H } o.dst (strip r) := by
    intro r H
    unfold drawE
    rw [if_pos hb, if_pos hh]
  unfold opRunV
  generalize ho : o.op = op at hh ⊢
  cases op with
  | call c =>
    obtain ⟨callee, args, ts⟩ := c
    cases callee with
    | value f =>
      cases f with
      | func g =>
        have he : cfg.eff g = true := by
          simp only [heavyOp, Bool.and_eq_true] at hh
          exact hh.2
        simp only [allocH, St.ev, target, he, if_true]
        split
        · cases hk : K g (List.map strip ([] ++ evs F args.toList ++ [])) F.H with
          | none => rfl
          | some p =>
            obtain ⟨r, H⟩ := p
            simp only [Option.bind_some, Option.map_some]
            exact hE r H
        · rfl
      | _ => simp [heavyOp] at hh
    | _ => simp [heavyOp] at hh
  | _ => simp [heavyOp] at hh
theorem Agree.allocH (h : Agree ops ds o F F') : (V.allocH P F' o.op).isSome = (V.allocH P F o.op).isSome := by
  have hev := fun x hx => h.ev (x := x) hx
  have hm := h.m
  have hqq : ∀ t l ps, o.op = .buildSlice t l ps → V.quiet P F' [] 0 (.buildSlice t l ps) = V.quiet P F [] 0 (.buildSlice t l ps) := by
    intro t l ps ho
    have := h.quiet (P := P) (lab := 0)
    rw [ho] at this
    exact this
  have hqm : ∀ t x y, o.op = .makeSlice t x y → V.quiet P F' [] 0 (.makeSlice t x y) = V.quiet P F [] 0 (.makeSlice t x y) := by
    intro t x y ho
    have := h.quiet (P := P) (lab := 0)
    rw [ho] at this
    exact this
  generalize ho : o.op = op at hev hqq hqm ⊢
  cases op <;> simp only [V.allocH]
  case alloc e =>
    rw [hm]
    split
    · cases tzero P e <;> rfl
    · rfl
  case box e x =>
    rw [hm, hev x (by simp [Op.operands])]
    split <;> rfl
  case buildSlice t len ps =>
    rw [hm, hqq t len ps rfl]
    split
    · split
      · split <;> rfl
      · rfl
    · rfl
  case makeSlice t x y =>
    rw [hm, hqm t x y rfl]
    split
    · split
      · split <;> rfl
      · rfl
    · rfl
theorem Agree.val0 {cfg : Cfg} {K : KF} (h : Agree ops ds o F F') : val0 cfg K ds lab o F' = val0 cfg K ds lab o F := by
  have hq := h.quiet (P := cfg.P) (lab := lab)
  have hevs := fun l hl => h.evs (l := l) hl
  have hev := fun x hx => h.ev (x := x) hx
  unfold V.val0
  rw [h.allocH]
  by_cases hA : (V.allocH cfg.P F o.op).isSome = true
  · rw [if_pos hA, if_pos hA]
  rw [if_neg hA, if_neg hA]
  clear hA
  generalize ho : o.op = op at hq hevs hev ⊢
  cases op with
  | store t p x => rfl
  | makeFunc f a b => rfl
  | call c =>
    obtain ⟨callee, args, ts⟩ := c
    have h1 : V.evs F' args.toList = V.evs F args.toList := hevs _ (fun x hx => by
      simp only [Op.operands, Call.operands]
      cases callee <;> simp_all)
    cases callee with
    | builtin b => cases b <;> simp only [h1]
    | value f =>
      have h2 : F'.ev f = F.ev f := hev _ (by simp [Op.operands, Call.operands])
      simp only [h1, h2]
      rcases h.H with hH | hb
      · rw [hH]
      · simp only [hb, Bool.and_self, Bool.not_true, Bool.false_and, Bool.false_or, if_true]
    | invoke a b => rfl
  | _ => exact hq

/-- An append's value and marks. -/
def val1' (cfg : Cfg) (ds : List Nat) (lab : Nat) (o : Oper) (F : St) : Option (AV × (Nat → Bool)) :=
  match o.op with
  | .call c => match c.callee with
    | .builtin .append => match c.args.toList, c.argTypes[0]? with
      | [s, x], some t => appendB true ds cfg.P F lab t (F.ev s) (F.ev x) c.argTypes[1]?
      | _, _ => none
    | _ => none
  | _ => none
theorem opRun1 {cfg : Cfg} {K : KF} (hk : kindOf o.op = 1) : opRun cfg K true ds lab o F = (val1' cfg ds lab o F).bind fun r => F.putAl o.dst r.1 r.2 := by
  have ha : allocH cfg.P F o.op = none := by
    generalize o.op = op at hk ⊢
    cases op <;> first | rfl | (simp [kindOf] at hk)
  unfold opRun
  rw [ha]
  unfold opRunV val1'
  generalize ho : o.op = op at hk ⊢
  cases op with
  | call c =>
    obtain ⟨callee, args, ts⟩ := c
    cases callee with
    | builtin b =>
      cases b <;> first | (simp [kindOf] at hk; done) | skip
      simp only []
      generalize args.toList = l
      generalize ts[0]? = q
      rcases l with _ | ⟨s, _ | ⟨x, _ | ⟨y, l⟩⟩⟩ <;> cases q <;> rfl
    | value f => simp [kindOf] at hk
    | invoke a b => simp [kindOf] at hk
  | _ => simp [kindOf] at hk
theorem srcRows_nh {P : Program} {F F' : St} {xt : Option TypeId} {x : AV} (h : isHs x = false) : srcRows P F' xt x = srcRows P F xt x := by
  cases x with
  | «at» v => cases v <;> rfl
  | hs => cases h
  | _ => rfl
theorem appendB_al {P : Program} {F F' : St} (h : F'.al = F.al) (hH : F'.H = F.H ∨ blind ds = true) {lab : Nat} {t : TypeId} {s x : AV} {xt : Option TypeId} : appendB true ds P F' lab t s x xt = appendB true ds P F lab t s x xt := by
  unfold appendB
  by_cases hc : (isHs x && (true && blind ds)) = true
  · rw [if_pos hc, if_pos hc]
  · rw [if_neg hc, if_neg hc]
    have e : srcRows P F' xt x = srcRows P F xt x := by
      rcases hH with hH | hb
      · unfold srcRows; rw [hH]
      · refine srcRows_nh ?_
        rw [hb] at hc
        simpa using hc
    unfold appendA
    rw [h, e]
theorem Agree.val1 {cfg : Cfg} (h : Agree ops ds o F F') (hal : F'.al = F.al) : val1' cfg ds lab o F' = val1' cfg ds lab o F := by
  have hev := fun x hx => h.ev (x := x) hx
  unfold val1'
  generalize ho : o.op = op at hev ⊢
  cases op with
  | call c =>
    obtain ⟨callee, args, ts⟩ := c
    cases callee with
    | builtin b =>
      cases b <;> first | rfl | skip
      simp only []
      split
      · rename_i s x t hargs ht
        rw [hev s (by simp only [Op.operands, Call.operands]; rw [← Array.toArray_toList (xs := args), hargs]; simp), hev x (by simp only [Op.operands, Call.operands]; rw [← Array.toArray_toList (xs := args), hargs]; simp), appendB_al hal h.H]
      · rfl
    | value f => rfl
    | invoke a b => rfl
  | _ => rfl
theorem Agree.valH {cfg : Cfg} {K : KF} (h : Agree ops ds o F F') (hH : F'.H = F.H) : V.valH cfg K o F' = V.valH cfg K o F := by
  have hevs := fun l hl => h.evs (l := l) hl
  have hev := fun x hx => h.ev (x := x) hx
  unfold V.valH
  generalize ho : o.op = op at hevs hev ⊢
  cases op with
  | call c =>
    obtain ⟨callee, args, ts⟩ := c
    have h1 : V.evs F' args.toList = V.evs F args.toList := hevs _ (fun x hx => by
      simp only [Op.operands, Call.operands]
      cases callee <;> simp_all)
    cases callee with
    | value f =>
      have h2 : F'.ev f = F.ev f := hev _ (by simp [Op.operands, Call.operands])
      simp only [h1, h2, hH]
    | _ => rfl
  | _ => rfl
/-- What an operation turns: its slot, marks, the heap. -/
structure Res where
  x : AV
  da : Option (Nat → Bool)
  dH : Option (List (List AV))
def app (F : St) (d : Option Nat) (r : Res) : Option St := St.put { F with al := r.da.getD F.al, H := r.dH.getD F.H } d r.x
def res (cfg : Cfg) (K : KF) (ds : List Nat) (lab : Nat) (o : Oper) (F : St) : Option Res :=
  if kindOf o.op = 1 then (val1' cfg ds lab o F).map fun r => ⟨r.1, some r.2, none⟩
  else if (heavyOp cfg o.op && blind ds) = true then (V.valH cfg K o F).map fun r => ⟨r.1, none, some r.2⟩
  else (V.val0 cfg K ds lab o F).map fun v => ⟨v, none, none⟩
theorem opRun_res {cfg : Cfg} {K : KF} (hk : kindOf o.op ≤ 1) : opRun cfg K true ds lab o F = (res cfg K ds lab o F).bind (app F o.dst) := by
  unfold res
  by_cases h1 : kindOf o.op = 1
  · rw [if_pos h1, opRun1 h1]
    cases val1' cfg ds lab o F <;> rfl
  · rw [if_neg h1]
    by_cases h2 : (heavyOp cfg o.op && blind ds) = true
    · rw [if_pos h2]
      have h2' := h2
      rw [Bool.and_eq_true] at h2'
      rw [opRunH h2'.1 h2'.2]
      cases V.valH cfg K o F <;> rfl
    · rw [if_neg h2, opRun0 (by omega) (by simpa using h2)]
      cases V.val0 cfg K ds lab o F <;> rfl
theorem Agree.res {cfg : Cfg} {K : KF} (h : Agree ops ds o F F') (hal : kindOf o.op = 1 → F'.al = F.al) (hH : (heavyOp cfg o.op && blind ds) = true → F'.H = F.H) : V.res cfg K ds lab o F' = V.res cfg K ds lab o F := by
  unfold V.res
  by_cases h1 : kindOf o.op = 1
  · rw [if_pos h1, if_pos h1, h.val1 (hal h1)]
  · rw [if_neg h1, if_neg h1]
    by_cases h2 : (heavyOp cfg o.op && blind ds) = true
    · rw [if_pos h2, if_pos h2, h.valH (hH h2)]
    · rw [if_neg h2, if_neg h2, h.val0]
theorem res_da {cfg : Cfg} {K : KF} {r : Res} (h : res cfg K ds lab o F = some r) (hk : kindOf o.op ≠ 1) : r.da = none := by
  unfold res at h
  rw [if_neg hk] at h
  split at h <;> (simp only [Option.map_eq_some_iff] at h; obtain ⟨_, _, rfl⟩ := h; rfl)
theorem res_dH {cfg : Cfg} {K : KF} {r : Res} (h : res cfg K ds lab o F = some r) (hk : (heavyOp cfg o.op && blind ds) = false) : r.dH = none := by
  unfold res at h
  split at h
  · simp only [Option.map_eq_some_iff] at h; obtain ⟨_, _, rfl⟩ := h; rfl
  · rw [if_neg (by rw [hk]; simp)] at h
    simp only [Option.map_eq_some_iff] at h; obtain ⟨_, _, rfl⟩ := h; rfl
end
end Go.Proofs.V
namespace Go.Proofs.V
open Go Go.RowKit
set_option linter.unusedVariables false
set_option linter.unusedSimpArgs false

section
variable {cfg : Cfg} {K : KF} {ops : Array Oper} {ds : List Nat} {c : Nat}

/-- Operation number p.1 comes up. -/
def stepO (cfg : Cfg) (K : KF) (ds : List Nat) (ops : Array Oper) (c : Nat) (p : Nat × Oper) (F : St) : Option St :=
  (guardA ops p.2 F).bind fun w => if w then opRun cfg K true ds (c + 64 * p.1) p.2 F else F.put p.2.dst und
def runL (cfg : Cfg) (K : KF) (ds : List Nat) (ops : Array Oper) (c : Nat) : List (Nat × Oper) → St → Option St
  | [], F => some F
  | p :: l, F => (stepO cfg K ds ops c p F).bind (runL cfg K ds ops c l)

theorem opsRun_runL : ∀ (l : List Oper) (k : Nat) (F : St), opsRun cfg K true ds ops l (c + 64 * k) F = runL cfg K ds ops c ((List.range' k l.length).zip l) F
  | [], k, F => by simp [opsRun, runL]
  | o :: l, k, F => by
    simp only [opsRun, List.length_cons, List.range'_succ, List.zip_cons_cons, runL, stepO]
    cases hg : guardA ops o F with
    | none => rfl
    | some b =>
      simp only [Option.bind_some]
      congr 1
      funext F'
      have := opsRun_runL l (k + 1) F'
      rw [show c + 64 * (k + 1) = c + 64 * k + 64 by omega] at this
      rw [this]

/-- What a step turns. -/
def stepR (cfg : Cfg) (K : KF) (ds : List Nat) (ops : Array Oper) (c : Nat) (p : Nat × Oper) (F : St) : Option Res :=
  (guardA ops p.2 F).bind fun w => if w then res cfg K ds (c + 64 * p.1) p.2 F else some ⟨und, none, none⟩
theorem stepO_res {p : Nat × Oper} {F : St} (hk : kindOf p.2.op ≤ 1) : stepO cfg K ds ops c p F = (stepR cfg K ds ops c p F).bind (app F p.2.dst) := by
  unfold stepO stepR
  cases guardA ops p.2 F with
  | none => rfl
  | some b => cases b <;> simp [opRun_res hk, app]
theorem stepR_da {p : Nat × Oper} {F : St} {r : Res} (h : stepR cfg K ds ops c p F = some r) (hk : kindOf p.2.op ≠ 1) : r.da = none := by
  unfold stepR at h
  obtain ⟨w, _, h⟩ := Option.bind_eq_some_iff.1 h
  split at h
  · exact res_da h hk
  · cases h; rfl
theorem stepR_dH {p : Nat × Oper} {F : St} {r : Res} (h : stepR cfg K ds ops c p F = some r) (hk : (heavyOp cfg p.2.op && blind ds) = false) : r.dH = none := by
  unfold stepR at h
  obtain ⟨w, _, h⟩ := Option.bind_eq_some_iff.1 h
  split at h
  · exact res_dH h hk
  · cases h; rfl
theorem stepR_agree {p : Nat × Oper} {F F' : St} (h : Agree ops ds p.2 F F') (hal : kindOf p.2.op = 1 → F'.al = F.al) (hH : (heavyOp cfg p.2.op && blind ds) = true → F'.H = F.H) : stepR cfg K ds ops c p F' = stepR cfg K ds ops c p F := by
  unfold stepR
  rw [h.guard, h.res hal hH]

theorem put_n {F F' : St} {d : Option Nat} {v : AV} (h : F.put d v = some F') : F'.n = F.n ∧ F'.H = F.H ∧ F'.al = F.al ∧ F'.c = F.c ∧ F'.t = (match d with | none => F.t | some d => upd F.t d v) ∧ (∀ e, d = some e → e < F.n) := by
  cases d with
  | none => cases h; exact ⟨rfl, rfl, rfl, rfl, rfl, fun e he => by cases he⟩
  | some d =>
    simp only [St.put] at h
    split at h
    · cases h; exact ⟨rfl, rfl, rfl, rfl, rfl, fun e he => by cases he; assumption⟩
    · cases h

theorem app_spec {F F' : St} {d : Option Nat} {r : Res} (h : app F d r = some F') : F'.n = F.n ∧ F'.H = r.dH.getD F.H ∧ F'.al = r.da.getD F.al ∧ F'.m = F.m ∧ F'.t = (match d with | none => F.t | some d => upd F.t d r.x) := by
  unfold app at h
  cases d with
  | none => cases h; exact ⟨rfl, rfl, rfl, rfl, rfl⟩
  | some d =>
    simp only [St.put] at h
    split at h
    · cases h; exact ⟨rfl, rfl, rfl, rfl, rfl⟩
    · cases h
theorem agree_app {o : Oper} {F F' : St} {d : Option Nat} {r : Res} (h : app F d r = some F') (h1 : ∀ e, d = some e → e ∉ o.looksAt ops) (h2 : ∀ e, d = some e → ds.contains e = true) (hH : r.dH = none ∨ blind ds = true) : Agree ops ds o F F' := by
  obtain ⟨p1, p2, p3, p4, p5⟩ := app_spec h
  refine ⟨p1, ?_, fun t ht => ?_, fun t ht => ?_, p4⟩
  · rcases hH with hH | hH
    · rw [p2, hH]; exact .inl rfl
    · exact .inr hH
  · rw [p5]
    cases d with
    | none => rfl
    | some d =>
      simp only [upd_apply]
      rw [if_neg]
      rintro rfl
      exact h1 _ rfl ht
  · rw [p5]
    cases d with
    | none => rfl
    | some d =>
      simp only [upd_apply]
      rw [if_neg]
      rintro rfl
      rw [h2 _ rfl] at ht
      cases ht

theorem upd_comm {α : Type} (f : Nat → α) {i j : Nat} (h : i ≠ j) (x y : α) : upd (upd f i x) j y = upd (upd f j y) i x := by
  funext k
  simp only [upd_apply]
  split <;> split <;> simp_all

/-- Two turns, the other way round. -/
theorem app_swap {F F1 F2 : St} {d e : Option Nat} {r s : Res} (hne : ∀ k, d = some k → e ≠ some k) (ha : r.da = none ∨ s.da = none) (hH : r.dH = none ∨ s.dH = none) (h1 : app F d r = some F1) (h2 : app F1 e s = some F2) :
    ∃ F1', app F e s = some F1' ∧ app F1' d r = some F2 := by
  obtain ⟨x, da, dH⟩ := r
  obtain ⟨y, ea, eH⟩ := s
  have key : ∀ {al : Nat → Bool} {H : List (List AV)}, al = ea.getD (da.getD F.al) → H = eH.getD (dH.getD F.H) → al = da.getD (ea.getD F.al) ∧ H = dH.getD (eH.getD F.H) := by
    intro al H h1 h2
    constructor
    · rw [h1]
      rcases ha with h | h <;> dsimp only at h <;> subst h <;> rfl
    · rw [h2]
      rcases hH with h | h <;> dsimp only at h <;> subst h <;> rfl
  obtain ⟨k1, k2⟩ := key rfl rfl
  unfold app at *
  cases d with
  | none =>
    cases e with
    | none =>
      cases h1; cases h2
      refine ⟨_, rfl, ?_⟩
      simp only [St.put]
      rw [← k1, ← k2]
    | some e =>
      cases h1
      simp only [St.put] at h2 ⊢
      split at h2
      · rename_i hlt
        have hlt : e < F.n := hlt
        cases h2
        refine ⟨_, by rw [if_pos hlt], ?_⟩
        simp only
        rw [← k1, ← k2]
      · cases h2
  | some d =>
    simp only [St.put] at h1
    split at h1
    · rename_i hlt
      have hlt : d < F.n := hlt
      cases h1
      cases e with
      | none =>
        cases h2
        refine ⟨_, rfl, ?_⟩
        simp only [St.put]
        rw [if_pos hlt, ← k1, ← k2]
      | some e =>
        simp only [St.put] at h2
        split at h2
        · rename_i hlt2
          have hlt2 : e < F.n := hlt2
          cases h2
          refine ⟨{ F with al := ea.getD F.al, H := eH.getD F.H, t := upd F.t e y }, by simp only [St.put]; rw [if_pos hlt2], ?_⟩
          simp only [St.put]
          rw [if_pos hlt]
          have : d ≠ e := fun he => hne d rfl (by rw [he])
          rw [upd_comm F.t this, ← k1, ← k2]
        · cases h2
    · cases h1

/-- TWO OPERATIONS, THE OTHER WAY ROUND. -/
theorem swap {p q : Nat × Oper} {F F1 F2 : St} (hpq : pairOk ops p.2 q.2 = true) (hhv : (heavyOp cfg p.2.op && blind ds) = false ∨ (heavyOp cfg q.2.op && blind ds) = false) (hdp : ∀ e, p.2.dst = some e → ds.contains e = true) (hdq : ∀ e, q.2.dst = some e → ds.contains e = true)
    (h1 : stepO cfg K ds ops c p F = some F1) (h2 : stepO cfg K ds ops c q F1 = some F2) : ∃ F1', stepO cfg K ds ops c q F = some F1' ∧ stepO cfg K ds ops c p F1' = some F2 := by
  simp only [pairOk, Bool.and_eq_true, decide_eq_true_eq] at hpq
  obtain ⟨hap, hk⟩ := hpq
  obtain ⟨a1, a2, a3⟩ := Oper.apart_spec hap
  rw [stepO_res (by omega)] at h1 h2
  obtain ⟨r, hr, hp1⟩ := Option.bind_eq_some_iff.1 h1
  obtain ⟨s, hs, hp2⟩ := Option.bind_eq_some_iff.1 h2
  have hbl : ∀ {o : Op}, ¬ (heavyOp cfg o && blind ds) = false → blind ds = true := fun h => by
    rw [Bool.not_eq_false, Bool.and_eq_true] at h
    exact h.2
  have rH : r.dH = none ∨ blind ds = true := by
    by_cases h : (heavyOp cfg p.2.op && blind ds) = false
    · exact .inl (stepR_dH hr h)
    · exact .inr (hbl h)
  have g1 : Agree ops ds q.2 F F1 := agree_app hp1 a1 hdp rH
  obtain ⟨-, s2, s3, -, -⟩ := app_spec hp1
  have hs' : stepR cfg K ds ops c q F = some s := by
    rw [← hs]
    refine (stepR_agree g1 (fun hq => ?_) (fun hq => ?_)).symm
    · rw [s3, stepR_da hr (by omega)]; rfl
    · have : (heavyOp cfg p.2.op && blind ds) = false := hhv.resolve_right (by rw [hq]; simp)
      rw [s2, stepR_dH hr this]; rfl
  have sH : s.dH = none ∨ blind ds = true := by
    by_cases h : (heavyOp cfg q.2.op && blind ds) = false
    · exact .inl (stepR_dH hs h)
    · exact .inr (hbl h)
  have hda : r.da = none ∨ s.da = none := by
    by_cases h : kindOf p.2.op = 1
    · exact .inr (stepR_da hs (by omega))
    · exact .inl (stepR_da hr h)
  have hdH : r.dH = none ∨ s.dH = none := by
    rcases hhv with h | h
    · exact .inl (stepR_dH hr h)
    · exact .inr (stepR_dH hs h)
  obtain ⟨F1', b1, b2⟩ := app_swap (fun k hk => a2 k hk) hda hdH hp1 hp2
  have g2 : Agree ops ds p.2 F F1' := agree_app b1 a3 hdq sH
  obtain ⟨-, t2, t3, -, -⟩ := app_spec b1
  refine ⟨F1', ?_, ?_⟩
  · rw [stepO_res (by omega), hs']; exact b1
  · rw [stepO_res (by omega), stepR_agree g2 (fun hp => by rw [t3, stepR_da hs (by omega)]; rfl) (fun hp => by
      have : (heavyOp cfg q.2.op && blind ds) = false := hhv.resolve_left (by rw [hp]; simp)
      rw [t2, stepR_dH hs this]; rfl), hr]
    exact b2

theorem app_t {F F' : St} {d : Option Nat} {r : Res} (h : app F d r = some F') {s : Nat} (hd : ¬ d = some s) : F'.t s = F.t s := by
  unfold app at h
  cases d with
  | none => cases h; rfl
  | some d =>
    simp only [St.put] at h
    split at h
    · cases h
      exact upd_ne _ _ _ _ (by rintro rfl; exact hd rfl)
    · cases h
/-- A store into a box, carried out. -/
theorem store_step {p : Nat × Oper} {F F1 : St} {s : Nat} (hs : stSlot p.2.op = some s) (hd : p.2.dst = none) (hg : p.2.guard = none) (hlb : ds.contains (s + LB) = true) :
    stepO cfg K ds ops c p F = some F1 ↔ ∃ t v n g row, p.2.op = .store t (.tmp s) v ∧ tsz cfg.P t = some n ∧ ((F.ev v).storable = true ∧ (F.ev v).cells.length = n) ∧ F.t s = .box g row ∧ 0 + (F.ev v).cells.length ≤ row.length ∧ F1 = { F with t := upd F.t s (.box g (splice row 0 (F.ev v).cells)) } := by
  obtain ⟨k, o⟩ := p
  simp only at hs hd hg
  generalize ho : o.op = op at hs
  unfold stSlot at hs
  split at hs
  · rename_i t q v
    cases hs
    unfold stepO guardA
    simp only [hg, Option.bind_some, if_true]
    unfold opRun
    simp only [ho, allocH]
    unfold opRunV
    simp only [ho, hd]
    have hok : ∀ {F : St}, stBoxOk true ds F (.tmp s) = true ↔ ∃ g row, F.t s = .box g row := by
      intro F
      simp only [stBoxOk, Bool.not_true, Bool.false_or, hlb]
      constructor
      · intro h
        cases hF : F.t s <;> rw [hF] at h <;> first | exact ⟨_, _, rfl⟩ | (simp [isBoxA] at h)
      · rintro ⟨g, row, h⟩
        rw [h]; rfl
    constructor
    · intro h
      split at h
      · rename_i n hn
        split at h
        · rename_i hc
          obtain ⟨g, row, hF⟩ := hok.1 hc.2
          have hev : F.ev (.tmp s) = .fp g s 0 := by
            show F.tmp s = _
            unfold St.tmp
            rw [hF]
          rw [hev] at h
          simp only [St.write, hF, true_and] at h
          split at h
          · rename_i hl
            simp only [Option.bind_some, St.put] at h
            cases h
            exact ⟨t, v, n, g, row, rfl, hn, hc.1, hF, hl, rfl⟩
          · cases h
        · cases h
      · cases h
    · rintro ⟨t', v', n, g, row, he, hn, hc, hF, hl, rfl⟩
      cases he
      rw [hn]
      simp only
      have hev : F.ev (.tmp s) = .fp g s 0 := by
        show F.tmp s = _
        unfold St.tmp
        rw [hF]
      rw [if_pos ⟨hc, hok.2 ⟨g, row, hF⟩⟩, hev]
      simp only [St.write, hF, true_and, hl, if_true, Option.bind_some, St.put]
  · cases hs
theorem store_op {p : Oper} {s : Nat} {t : TypeId} {v : Operand} (h : p.op = .store t (.tmp s) v) : v ∈ p.op.operands := by
  rw [h]; simp [Op.operands]
theorem heavy_call {o : Op} (h : isCallV o = false) : heavyOp cfg o = false := by
  unfold heavyOp
  split
  · split
    · rename_i c g hc
      simp [isCallV, hc] at h
    · rfl
  · rfl
/-- A store into a box, and an operation that does not look at it: the other way round. -/
theorem swapS {p q : Nat × Oper} (hpq : stPair ops p.2 q.2 = true) (hlo : ∀ e, (loose ops).contains e = true → ds.contains e = true) (hdq : ∀ e, q.2.dst = some e → ds.contains e = true) :
    (∀ {F F1 F2 : St}, stepO cfg K ds ops c p F = some F1 → stepO cfg K ds ops c q F1 = some F2 → ∃ F1', stepO cfg K ds ops c q F = some F1' ∧ stepO cfg K ds ops c p F1' = some F2) ∧
    (∀ {F F1 F2 : St}, stepO cfg K ds ops c q F = some F1 → stepO cfg K ds ops c p F1 = some F2 → ∃ F1', stepO cfg K ds ops c p F = some F1' ∧ stepO cfg K ds ops c q F1' = some F2) := by
  unfold stPair at hpq
  split at hpq
  rotate_left
  · cases hpq
  · rename_i s hs
    simp only [Bool.and_eq_true, decide_eq_true_eq, Bool.not_eq_true', bne_iff_ne, ne_eq, Option.isNone_iff_eq_none] at hpq
    obtain ⟨⟨⟨⟨⟨⟨⟨⟨l1, l2⟩, pd⟩, pg⟩, hap⟩, k0⟩, kc⟩, hl⟩, hdn⟩ := hpq
    obtain ⟨a1, a2, a3⟩ := Oper.apart_spec hap
    have hsd := hlo _ l1
    have hlb := hlo _ l2
    have hheavy : (heavyOp cfg q.2.op && blind ds) = false := by rw [heavy_call kc]; rfl
    have hl' : s ∉ q.2.looksAt ops := by simpa using hl
    -- q does not see the box
    have agQ : ∀ {F : St} {x : AV}, Agree ops ds q.2 F { F with t := upd F.t s x } := fun {F x} =>
      ⟨rfl, .inl rfl, fun t ht => upd_ne _ _ _ _ (by rintro rfl; exact hl' ht), fun t ht => upd_ne _ _ _ _ (by rintro rfl; rw [hsd] at ht; cases ht), rfl⟩
    have stQ : ∀ {F : St} {x : AV}, stepR cfg K ds ops c q { F with t := upd F.t s x } = stepR cfg K ds ops c q F := fun {F x} => stepR_agree agQ (fun _ => rfl) (fun _ => rfl)
    -- the box, and what is stored, stay as q goes by
    have after : ∀ {F F' : St} {r : Res}, stepR cfg K ds ops c q F = some r → app F q.2.dst r = some F' → F'.t s = F.t s ∧ (∀ t v, p.2.op = .store t (.tmp s) v → F'.ev v = F.ev v) := by
      intro F F' r hr ha
      refine ⟨?_, fun t v hv => (agree_app ha a3 hdq (.inl (stepR_dH hr hheavy))).ev (store_op hv)⟩
      exact app_t ha hdn
    have app_box : ∀ {F : St} {r : Res} {x : AV}, r.da = none → r.dH = none → app { F with t := upd F.t s x } q.2.dst r = (app F q.2.dst r).map fun F' => { F' with t := upd F'.t s x } := by
      intro F r x h1 h2
      unfold app
      rw [h1, h2]
      cases hq : q.2.dst with
      | none => rfl
      | some d =>
        simp only [St.put, Option.getD_none]
        split
        · simp only [Option.map_some]
          rw [upd_comm F.t (by rintro rfl; exact hdn hq)]
        · rfl
    constructor
    · intro F F1 F2 h1 h2
      obtain ⟨t, v, n, g, row, e1, e2, e3, e4, e5, rfl⟩ := (store_step hs pd pg hlb).1 h1
      rw [stepO_res (by omega), stQ] at h2
      obtain ⟨r, hr, ha⟩ := Option.bind_eq_some_iff.1 h2
      rw [app_box (stepR_da hr (by omega)) (stepR_dH hr hheavy)] at ha
      simp only [Option.map_eq_some_iff] at ha
      obtain ⟨F1', ha, rfl⟩ := ha
      obtain ⟨b1, b2⟩ := after hr ha
      refine ⟨F1', by rw [stepO_res (by omega), hr]; exact ha, (store_step hs pd pg hlb).2 ⟨t, v, n, g, row, e1, e2, ?_, ?_, ?_, ?_⟩⟩
      · rw [b2 t v e1]; exact e3
      · rw [b1]; exact e4
      · rw [b2 t v e1]; exact e5
      · rw [b2 t v e1]
    · intro F F1 F2 h1 h2
      rw [stepO_res (by omega)] at h1
      obtain ⟨r, hr, ha⟩ := Option.bind_eq_some_iff.1 h1
      obtain ⟨b1, b2⟩ := after hr ha
      obtain ⟨t, v, n, g, row, e1, e2, e3, e4, e5, rfl⟩ := (store_step hs pd pg hlb).1 h2
      rw [b2 t v e1] at e3 e5 ⊢
      rw [b1] at e4
      refine ⟨_, (store_step hs pd pg hlb).2 ⟨t, v, n, g, row, e1, e2, e3, e4, e5, rfl⟩, ?_⟩
      rw [stepO_res (by omega), stQ, hr]
      show app _ _ _ = _
      rw [app_box (stepR_da hr (by omega)) (stepR_dH hr hheavy), ha]
      rfl
/-- Two operations that may come up either way. -/
def PairOk2 (cfg : Cfg) (ds : List Nat) (ops : Array Oper) (x y : Oper) : Prop := (pairOk ops x y = true ∧ ((heavyOp cfg x.op && blind ds) = false ∨ (heavyOp cfg y.op && blind ds) = false)) ∨ stPair ops x y = true ∨ stPair ops y x = true

/-- An operation that may come up is taken ahead of those that stand before it. -/
theorem ahead {q : Nat × Oper} {post : List (Nat × Oper)} (hlo : ∀ e, (loose ops).contains e = true → ds.contains e = true) (hdq : ∀ e, q.2.dst = some e → ds.contains e = true) : ∀ (pre : List (Nat × Oper)) {F Fn : St}, (∀ p ∈ pre, PairOk2 cfg ds ops p.2 q.2 ∧ ∀ e, p.2.dst = some e → ds.contains e = true) →
    runL cfg K ds ops c (pre ++ q :: post) F = some Fn → ∃ F', stepO cfg K ds ops c q F = some F' ∧ runL cfg K ds ops c (pre ++ post) F' = some Fn
  | [], F, Fn, _, h => by
    obtain ⟨F', h1, h2⟩ := Option.bind_eq_some_iff.1 h
    exact ⟨F', h1, h2⟩
  | p :: pre, F, Fn, hp, h => by
    obtain ⟨F1, h1, h2⟩ := Option.bind_eq_some_iff.1 h
    obtain ⟨F2, h3, h4⟩ := ahead hlo hdq pre (fun p hp' => hp p (by simp [hp'])) h2
    obtain ⟨g1, g2⟩ := hp p (by simp)
    have hsw : ∃ F1', stepO cfg K ds ops c q F = some F1' ∧ stepO cfg K ds ops c p F1' = some F2 := by
      rcases g1 with g1 | g1 | g1
      · exact swap g1.1 g1.2 g2 hdq h1 h3
      · exact (swapS g1 hlo hdq).1 h1 h3
      · exact (swapS g1 hlo g2).2 h1 h3
    obtain ⟨F1', b1, b2⟩ := hsw
    exact ⟨F1', b1, Option.bind_eq_some_iff.2 ⟨F2, b2, h4⟩⟩

theorem reach_listed {listed : Array Bool} (hcl : ∀ j o, ops[j]? = some o → listed.getD j false = true → ∀ e ∈ o.after, Region.binds .any e = true → listed.getD e.on false = true) : ∀ (f : Nat) {i j : Nat} {o : Oper}, ops[j]? = some o →
    (∀ e ∈ o.after, Region.binds .any e = true → listed.getD e.on false = true) → reach ops f j i = true → listed.getD i false = true
  | 0, i, j, o, _, _, h => by simp [reach] at h
  | f + 1, i, j, o, ho, hall, h => by
    simp only [reach, ho, Bool.or_eq_true, Array.any_eq_true'] at h
    rcases h with ⟨e, he, h⟩ | ⟨e, he, h⟩
    · simp only [Bool.and_eq_true, beq_iff_eq] at h
      rw [← h.2]
      exact hall e he h.1
    · simp only [Bool.and_eq_true] at h
      have hl := hall e he h.1
      cases hk : ops[e.on]? with
      | none => cases f <;> simp [reach, hk] at h
      | some o' => exact reach_listed hcl f hk (hcl _ _ hk hl) h.2
end
end Go.Proofs.V
namespace Go.Proofs.V
open Go Go.RowKit
set_option linter.unusedVariables false
set_option linter.unusedSimpArgs false

section
variable {E0 : Nat → Prop} {w0 : Ent} {Z : Nat → Prop} {G : Gh} {F : St} {a : Act} {w : World}

theorem guard_wanted (h : Inv E0 w0 Z G F a w) {ops : Array Oper} {o : Oper} {b : Bool} (hg : guardA ops o F = some b) : Region.wanted o (yielded ops a.tmps) = b := by
  unfold guardA at hg
  unfold Region.wanted
  split at hg
  · rename_i h0
    simp only [h0]
    exact Option.some.inj hg
  · rename_i j want h0
    simp only [h0]
    split at hg
    · rename_i hd
      have := Option.some.inj hg
      subst this
      simp [yielded, hd]
    · rename_i d hd
      split at hg
      · rename_i hlt
        have hs := h.slot d
        have hsz : d < a.tmps.size := by rw [h.nsz]; exact hlt
        have hget : a.tmps[d]? = some (a.tmps.getD d Go.undef) := by
          rw [Array.getD_eq_getD_getElem?]
          simp [hsz]
        split at hg
        · rename_i b' hb
          rw [hb] at hs
          have hs : R1 G.S G.E (.at (.bool b')) (a.tmps.getD d Go.undef) := hs
          generalize a.tmps.getD d Go.undef = v at *
          cases hs
          have := Option.some.inj hg
          subst this
          simp [yielded, hd, hget]
        · rename_i hb
          rw [hb] at hs
          have hs : R1 G.S G.E (.tup []) (a.tmps.getD d Go.undef) := hs
          generalize a.tmps.getD d Go.undef = v at *
          cases hs
          have := Option.some.inj hg
          subst this
          simp [yielded, hd, hget]
        · cases hg
      · cases hg

theorem inv_und (h : Inv E0 w0 Z G F a w) {d : Option Nat} {F' : St} (hp : F.put d und = some F') : Inv E0 w0 Z G F' (a.put d undef) w := by
  cases d with
  | none => cases hp; exact h
  | some d =>
    simp only [St.put] at hp
    split at hp
    · rename_i hlt
      cases hp
      refine h.set hlt (by intro g cs h; cases h) ?_ ?_ ?_
      · exact R1.tup [] [] rfl (fun j x v hx => by simp at hx)
      · intro j y u hy; simp [parts, und] at hy
      · rintro n ⟨y, hy, _⟩; simp [parts, und] at hy
    · cases hp

def dstOk (o : Oper) : Prop := o.dst.isSome = true ∨ isStore o.op = true
theorem dstOk_iff {o : Oper} (h : dstOk o) : o.dst.isSome = true ∨ ∃ t p x, o.op = .store t p x := by
  rcases h with h | h
  · exact .inl h
  · unfold isStore at h
    split at h
    · rename_i t p x ho; exact .inr ⟨t, p, x, ho⟩
    · cases h

/-- In the order of the text. -/
theorem ops_sound {ro : Option Nat} {cfg : Cfg} {K : KF} (hs : Sound cfg K) {ops : Array Oper} {n : Nat} {Q : Exit → Act → World → Prop} : ∀ (l : List Oper) (lab : Nat) {Z : Nat → Prop} {G : Gh} {F Fn : St} {a : Act} {w : World}, Inv E0 w0 Z G F a w → (∀ m, Z m → m < lab) →
    opsRun cfg K false [] ops l lab F = some Fn → (∀ o ∈ l, dstOk o) → (∀ G' a' w', Inv E0 w0 (fun m => m < lab + 64 * l.length) G' Fn a' w' → Q .normal a' w') → wpListIn (Fx ro) n cfg.P ops Q l a w
  | [], lab, Z, G, F, Fn, a, w, h, hz, hr, _, hn => by
    cases hr
    exact hn G a w (h.zmono fun m hm => by simpa using hz m hm)
  | o :: l, lab, Z, G, F, Fn, a, w, h, hz, hr, hd, hn => by
    simp only [opsRun] at hr
    obtain ⟨b, hg, hr⟩ := Option.bind_eq_some_iff.1 hr
    obtain ⟨F1, h1, h2⟩ := Option.bind_eq_some_iff.1 hr
    have hw := guard_wanted h hg
    have hn' : ∀ G' a' w', Inv E0 w0 (fun m => m < lab + 64 + 64 * l.length) G' Fn a' w' → Q .normal a' w' := fun G' a' w' h' => hn G' a' w' (h'.zmono fun m hm => by simp only [List.length_cons]; omega)
    simp only [wpListIn, hw]
    cases b with
    | true =>
      simp only [if_true] at h1 ⊢
      refine op_sound hs h (fun m hm hm' => by have := hz m hm'; simp only [Z1] at hm; omega) h1 (dstOk_iff (hd o (by simp))) (fun G' a' w' h' => ?_)
      exact ops_sound hs l (lab + 64) h' (fun m hm => by rcases hm with hm | hm; (· have := hz m hm; omega); (· simp only [Z1] at hm; omega)) h2 (fun o ho => hd o (by simp [ho])) hn'
    | false =>
      simp only [Bool.false_eq_true, if_false] at h1 ⊢
      refine ⟨fun f _ => wide_fn f, ?_⟩
      exact ops_sound hs l (lab + 64) (inv_und h h1) (fun m hm => by have := hz m hm; omega) h2 (fun o ho => hd o (by simp [ho])) hn'

theorem inv_drawn (h : Inv E0 w0 Z G F a w) (k : Nat) : Inv E0 w0 Z G F a { w with drawn := k } :=
  ⟨h.nsz, h.df, h.slot, h.cl, h.ids, h.mem, ⟨h.bel.os, h.bel.tape, h.bel.output, h.bel.size, h.bel.block⟩, h.rel, h.box, h.row, h.obj, h.zB, h.zal, h.live, h.pro, h.bm⟩
end

section
variable {E0 : Nat → Prop} {w0 : Ent}

theorem loose_SP (ops : Array Oper) (h : SP ∈ loose ops) : False := by
  unfold loose at h
  simp only [List.mem_flatMap] at h
  obtain ⟨j, _, h⟩ := h
  split at h
  · split at h
    · split at h
      · simp at h
      · rename_i p _ hc
        simp only [Bool.or_eq_true, not_or, beq_iff_eq] at hc
        simp only [List.mem_cons, List.not_mem_nil, or_false] at h
        rcases h with h | h
        · exact hc.2 h.symm
        · unfold SP LB at h; omega
    · simp at h
  · simp at h
/-- WHATEVER ORDER IS DRAWN. -/
theorem any_sound {ro : Option Nat} {cfg : Cfg} {K : KF} (hs : Sound cfg K) {ops : Array Oper} {n : Nat} {Q : Exit → Act → World → Prop} {ds : List Nat} {c : Nat} (hok : drawOk ops = true) (hhv : blind ds = true → heavyOk cfg ops = true) (hlo : ∀ e, (loose ops).contains e = true → ds.contains e = true) (hds : ∀ o ∈ ops, ∀ e, o.dst = some e → ds.contains e = true) (hdst : ∀ o ∈ ops, dstOk o) {Fn : St}
    (hn : ∀ G' a' w', Inv E0 w0 (fun m => m < c + 64 * ops.size) G' Fn a' w' → Q .normal a' w') :
    ∀ (pend : List (Nat × Oper)) (listed : Array Bool) {Z : Nat → Prop} {G : Gh} {F : St} {a : Act} {w : World}, listed.size = ops.size → (∀ i o, (i, o) ∈ pend ↔ ops[i]? = some o ∧ listed.getD i true = false) →
      pend.Pairwise (fun p q => p.1 < q.1) → (∀ j o, ops[j]? = some o → listed.getD j false = true → ∀ e ∈ o.after, Region.binds .any e = true → listed.getD e.on false = true) →
      Inv E0 w0 Z G F a w → (∀ m, Z m → m < c + 64 * ops.size) → (∀ p ∈ pend, ∀ m, Z1 (c + 64 * p.1) m → ¬ Z m) → runL cfg K ds ops c pend F = some Fn →
      wpAnyIn (Fx ro) n cfg.P .any ops Q pend.length listed a w := by
  intro pend
  generalize hlen : pend.length = fuel
  induction fuel generalizing pend with
  | zero =>
    intro listed Z G F a w hsz hpd hsort hcl h hz hfr hr
    have : pend = [] := List.eq_nil_of_length_eq_zero hlen
    subst this
    cases hr
    refine ⟨?_, hn G a w (h.zmono hz)⟩
    cases hrd : Region.ready .any ops listed with
    | nil => rfl
    | cons i l =>
      have hi : i ∈ Region.ready .any ops listed := by rw [hrd]; simp
      obtain ⟨h1, o, h2, _⟩ := mem_ready.1 hi
      have := (hpd i o).2 ⟨h2, h1⟩
      simp at this
  | succ fuel ih =>
    intro listed Z G F a w hsz hpd hsort hcl h hz hfr hr
    have hokj : ∀ j y, ops[j]? = some y → (∀ e ∈ y.after, Region.binds .any e = true → e.on < j) ∧ ∀ i x, i < j → ops[i]? = some x → ((pairOk ops x y = true ∨ reach ops 4 j i = true) ∨ stPair ops x y = true) ∨ stPair ops y x = true := by
      intro j y hy
      have hj : j < ops.size := (Array.getElem?_eq_some_iff.1 hy).1
      have := List.all_eq_true.1 hok j (List.mem_range.2 hj)
      simp only [hy, Bool.and_eq_true, List.all_eq_true, List.mem_range, Array.all_eq_true'] at this
      refine ⟨fun e he hb => ?_, fun i x hi hx => ?_⟩
      · have := this.1 e he
        simpa [hb] using this
      · have := this.2 i hi
        simpa [hx] using this
    refine ⟨fun hnil => ?_, fun i hi => ?_⟩
    · exfalso
      cases pend with
      | nil => simp at hlen
      | cons p l =>
        obtain ⟨k, o⟩ := p
        have hk := (hpd k o).1 (by simp)
        have : k ∈ Region.ready .any ops listed := by
          refine mem_ready.2 ⟨hk.2, o, hk.1, fun e he hb => ?_⟩
          have hlt := (hokj k o hk.1).1 e he hb
          have hks : k < ops.size := (Array.getElem?_eq_some_iff.1 hk.1).1
          cases hle : listed.getD e.on false with
          | true => rfl
          | false =>
            have heon : e.on < ops.size := by omega
            have h2 : listed.getD e.on true = false := by
              rw [Array.getD_eq_getD_getElem?] at hle ⊢
              have : e.on < listed.size := by omega
              simpa [this] using hle
            have hm := (hpd e.on ops[e.on]).2 ⟨Array.getElem?_eq_getElem heon, h2⟩
            rcases List.mem_cons.1 hm with he' | he'
            · have := congrArg Prod.fst he'
              simp at this
              omega
            · have := (List.pairwise_cons.1 hsort).1 _ he'
              simp at this
              omega
        rw [hnil] at this
        simp at this
    · obtain ⟨hun, o, ho, hall⟩ := mem_ready.1 hi
      have hm := (hpd i o).2 ⟨ho, hun⟩
      obtain ⟨pre, post, rfl⟩ := List.append_of_mem hm
      have hpre : ∀ p ∈ pre, PairOk2 cfg ds ops p.2 o ∧ ∀ e, p.2.dst = some e → ds.contains e = true := by
        rintro ⟨k, y⟩ hp
        have hk := (hpd k y).1 (by simp [hp])
        have hlt : k < i := (List.pairwise_append.1 hsort).2.2 _ hp (i, o) (by simp)
        refine ⟨?_, hds y (Array.mem_of_getElem? hk.1)⟩
        have nre : reach ops 4 i k = true → False := fun hq => by
          have := reach_listed hcl 4 ho hall hq
          have hks : k < listed.size := by rw [hsz]; exact (Array.getElem?_eq_some_iff.1 hk.1).1
          have h2 := hk.2
          rw [Array.getD_eq_getD_getElem?] at this h2
          simp [hks] at this h2
          rw [this] at h2
          cases h2
        rcases (hokj i o ho).2 k y hlt hk.1 with ((hpo | hq) | hp2) | hp2
        rotate_left
        · exact (nre hq).elim
        · exact .inr (.inl hp2)
        · exact .inr (.inr hp2)
        refine .inl ⟨hpo, ?_⟩
        by_cases hb : blind ds = true
        · have := hhv hb
          have hi' : i < ops.size := (Array.getElem?_eq_some_iff.1 ho).1
          have := List.all_eq_true.1 this i (List.mem_range.2 hi')
          simp only [ho, Bool.or_eq_true, Bool.not_eq_true', List.all_eq_true, List.mem_range] at this
          rcases this with h1 | h1
          · right; rw [h1]; rfl
          · have := h1 k hlt
            simp only [hk.1, Bool.or_eq_true, Bool.not_eq_true'] at this
            rcases this with h2 | h2
            · left; rw [h2]; rfl
            · exact (nre h2).elim
        · left
          rw [Bool.not_eq_true] at hb
          rw [hb, Bool.and_false]
      obtain ⟨F', h1, h2⟩ := ahead (q := (i, o)) hlo (hds o (Array.mem_of_getElem? ho)) pre hpre hr
      have hnd : ∀ p ∈ pre ++ post, p.1 ≠ i := by
        intro p hp
        have hs := List.pairwise_append.1 hsort
        rcases List.mem_append.1 hp with hp | hp
        · have := hs.2.2 p hp (i, o) (by simp)
          simp at this
          omega
        · have := (List.pairwise_cons.1 hs.2.1).1 p hp
          simp at this
          omega
      have hlt : i < ops.size := (Array.getElem?_eq_some_iff.1 ho).1
      -- what holds behind it
      have next : ∀ {Z' : Nat → Prop} {G' : Gh} {a' : Act} {w' : World}, Inv E0 w0 Z' G' F' a' w' → (∀ m, Z' m → Z m ∨ Z1 (c + 64 * i) m) → wpAnyIn (Fx ro) n cfg.P .any ops Q fuel (listed.setIfInBounds i true) a' w' := by
        intro Z' G' a' w' h' hZ'
        refine ih (pre ++ post) (by simp at hlen ⊢; omega) (listed.setIfInBounds i true) (by simpa using hsz) (fun k y => ?_) ?_ ?_ h' (fun m hm => ?_) (fun p hp m hm hm' => ?_) h2
        · constructor
          · intro hk
            have hne : k ≠ i := hnd (k, y) hk
            have := (hpd k y).1 (by simp at hk ⊢; exact hk.imp id .inr)
            exact ⟨this.1, by rw [getD_set_ne true (Ne.symm hne)]; exact this.2⟩
          · rintro ⟨k1, k2⟩
            have hne : k ≠ i := by
              rintro rfl
              have : k < listed.size := by omega
              rw [Array.getD_eq_getD_getElem?, Array.getElem?_setIfInBounds_self_of_lt this] at k2
              simp at k2
            rw [getD_set_ne true (Ne.symm hne)] at k2
            have := (hpd k y).2 ⟨k1, k2⟩
            simp at this ⊢
            rcases this with h | ⟨h, _⟩ | h
            · exact .inl h
            · exact absurd h hne
            · exact .inr h
        · exact List.Pairwise.sublist (by simp) hsort
        · intro j y hy hl e he hb
          by_cases hji : j = i
          · subst hji
            rw [ho] at hy
            cases hy
            exact getD_set_true (hall e he hb)
          · rw [getD_set_ne false (Ne.symm hji)] at hl
            exact getD_set_true (hcl j y hy hl e he hb)
        · rcases hZ' m hm with hm | hm
          · exact hz m hm
          · simp only [Z1] at hm; omega
        · rcases hZ' m hm' with hm' | hm'
          · exact hfr p (by simp at hp ⊢; exact hp.imp id .inr) m hm hm'
          · have := hnd p hp
            simp only [Z1] at hm hm'
            omega
      unfold wpOpIn
      simp only [ho]
      unfold stepO at h1
      obtain ⟨b, hg, h1⟩ := Option.bind_eq_some_iff.1 h1
      have hw := guard_wanted h hg
      rw [hw]
      cases b with
      | true =>
        simp only [if_true] at h1 ⊢
        exact op_sound hs h (hfr (i, o) (by simp)) h1 (dstOk_iff (hdst o (Array.mem_of_getElem? ho))) fun G' a' w' h' => next h' fun m hm => hm
      | false =>
        simp only [Bool.false_eq_true, if_false] at h1 ⊢
        exact ⟨fun f _ => wide_fn f, next (inv_und h h1) fun m hm => .inl hm⟩

theorem region_sound {ro : Option Nat} {cfg : Cfg} {K : KF} (hs : Sound cfg K) (hmix : cfg.P.follows .mixedOrders = true) {id : Nat} {ops : Array Oper} {draw : Bool} {n : Nat} {Q : Exit → Act → World → Prop} {Z : Nat → Prop} {G : Gh} {F F' : St} {a : Act} {w : World} {x : X}
    (h : Inv E0 w0 Z G F a w) (hz : ∀ m, Z m → m < F.c) (hok : codeOk (.region id ops draw) = true) (hr : regionRun cfg K ops draw F = some (x, F')) (hn : ∀ G' a' w', x = .normal → Inv E0 w0 (fun m => m < F'.c) G' F' a' w' → Q .normal a' w') :
    (Code.region id ops draw).wpIn (Fx ro) n cfg.P Q a w := by
  simp only [regionRun, Option.map_eq_some_iff] at hr
  obtain ⟨F1, hr, he⟩ := hr
  cases he
  simp only [codeOk, Bool.and_eq_true, List.all_eq_true] at hok
  have hdst : ∀ o ∈ ops, dstOk o := fun o ho => by
    have := hok.1 o (by simpa using ho)
    simpa [dstOk] using this
  have fin : ∀ G' a' w', Inv E0 w0 (fun m => m < F.c + 64 * ops.size) G' F1 a' w' → Q .normal a' w' := fun G' a' w' h' => by
    refine hn G' a' w' rfl ?_
    exact ⟨h'.nsz, h'.df, h'.slot, h'.cl, h'.ids, h'.mem, h'.bel, h'.rel, h'.box, h'.row, h'.obj, h'.zB, h'.zal, h'.live, h'.pro, h'.bm⟩
  cases draw with
  | false =>
    refine wpIn_region_list ?_
    exact ops_sound hs ops.toList F.c h hz (by simpa [dsOf] using hr) (fun o ho => hdst o (by simpa using ho)) (fun G' a' w' h' => fin G' a' w' (h'.zmono fun m hm => by simpa using hm))
  | true =>
    refine wpIn_region_any hmix ?_
    have hok2 : drawOk ops = true ∧ ∀ o ∈ ops.toList, (o.dst != some SP) = true := by
      have := hok.2
      simp only [Bool.not_true, Bool.false_or, Bool.and_eq_true, List.all_eq_true] at this
      exact this
    have hdraw : drawOk ops = true := hok2.1
    have hsp : ∀ o ∈ ops, o.dst ≠ some SP := fun o ho => by
      have := hok2.2 o (by simpa using ho)
      simpa using this
    have hhv : blind (dsOf cfg ops true) = true → heavyOk cfg ops = true := by
      intro hb
      unfold dsOf at hb
      rw [if_pos rfl] at hb
      split at hb
      · rename_i h
        rw [Bool.and_eq_true] at h
        exact h.2
      · exfalso
        unfold blind at hb
        simp only [List.contains_eq_mem, decide_eq_true_eq, List.mem_append, List.mem_filterMap] at hb
        rcases hb with hb | hb
        rotate_left
        · exact loose_SP ops hb
        obtain ⟨o, ho, he⟩ := hb
        have hs' := hsp o (by simpa using ho)
        exact hs' he
    have hlo : ∀ e, (loose ops).contains e = true → (dsOf cfg ops true).contains e = true := by
      intro e he
      simp only [List.contains_eq_mem, decide_eq_true_eq] at he ⊢
      unfold dsOf
      rw [if_pos rfl]
      split
      · exact List.mem_cons_of_mem _ (List.mem_append_right _ he)
      · exact List.mem_append_right _ he
    have e := opsRun_runL (cfg := cfg) (K := K) (ops := ops) (ds := dsOf cfg ops true) (c := F.c) ops.toList 0 F
    rw [show F.c + 64 * 0 = F.c from rfl, hr] at e
    have hlen : ((List.range' 0 ops.toList.length).zip ops.toList).length = ops.size := by simp
    rw [← hlen]
    have hget : ∀ (i : Nat) (o : Oper), (i, o) ∈ (List.range' 0 ops.toList.length).zip ops.toList ↔ ops[i]? = some o := by
      intro i o
      constructor
      · intro hm
        obtain ⟨k, hk⟩ := List.getElem?_of_mem hm
        rw [List.getElem?_zip_eq_some] at hk
        obtain ⟨k1, k2⟩ := hk
        rw [List.getElem?_range'] at k1
        · simp at k1; subst k1; simpa using k2
        · have := (List.getElem?_eq_some_iff.1 k2).1
          simpa using this
      · intro ho
        have hlt : i < ops.size := (Array.getElem?_eq_some_iff.1 ho).1
        refine List.mem_of_getElem? (i := i) ?_
        rw [List.getElem?_zip_eq_some]
        refine ⟨?_, by simpa using ho⟩
        rw [List.getElem?_range' (by simpa using hlt)]
        simp
    refine any_sound hs hdraw (ds := dsOf cfg ops true) hhv hlo (fun o ho e he => ?_) hdst fin _ _ (by simp) (fun i o => ?_) ?_ ?_ (inv_drawn h _) (fun m hm => ?_) (fun p hp m hm hm' => ?_) e.symm
    · have hm : e ∈ ops.toList.filterMap (·.dst) := List.mem_filterMap.2 ⟨o, by simpa using ho, he⟩
      simp only [List.contains_eq_mem, decide_eq_true_eq]
      unfold dsOf
      rw [if_pos rfl]
      split
      · exact List.mem_cons_of_mem _ (List.mem_append_left _ hm)
      · exact List.mem_append_left _ hm
    · rw [hget]
      constructor
      · intro ho
        have hlt : i < ops.size := (Array.getElem?_eq_some_iff.1 ho).1
        exact ⟨ho, by simp [hlt]⟩
      · exact fun h => h.1
    · rw [List.pairwise_iff_getElem]
      intro i j hi hj hij
      simp only [List.getElem_zip, List.getElem_range']
      omega
    · intro j o _ hl
      rw [Array.getD_eq_getD_getElem?, Array.getElem?_replicate] at hl
      split at hl <;> simp at hl
    · have := hz m hm; omega
    · have := hz m hm'
      simp only [Z1] at hm
      omega
end
end Go.Proofs.V
