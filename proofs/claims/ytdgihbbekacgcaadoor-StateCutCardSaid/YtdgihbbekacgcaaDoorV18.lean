/- One operation, carried out: what the evaluator says of it holds. -/
import Derived.Test.YtdgihbbekacgcaaDoorV17
namespace Go.Proofs.V
open Go Go.RowKit
set_option linter.unusedVariables false
set_option linter.unusedSimpArgs false

section
variable {E0 : Nat → Prop} {w0 : Ent} {Z : Nat → Prop} {G : Gh} {F : St} {a : Act} {w : World} {P : Program} {lab : Nat}

theorem wide_fn (f : FuncId) : Fence.wide.fn f := trivial
/-- An operation whose run is known. -/
theorem wp_value {n : Nat} {o : Oper} {next : Act → World → Prop} {Q : Exit → Act → World → Prop} {v : Value} {w' : World} (hr : (execOp a.eval o).run P w = .ok (.value v) w') (h : next (a.put o.dst v) w') : o.wpIn Fence.wide n P a w next Q := by
  refine ⟨fun f _ => wide_fn f, ?_⟩
  rw [show Fence.wide.round = none from rfl, Oper.semAt_none, hr]
  exact h
theorem wp_skip {n : Nat} {o : Oper} {next : Act → World → Prop} {Q : Exit → Act → World → Prop} {w' : World} (hr : (execOp a.eval o).run P w = .ok .skip w') (h : next (a.put o.dst undef) w') : o.wpIn Fence.wide n P a w next Q := by
  refine ⟨fun f _ => wide_fn f, ?_⟩
  rw [show Fence.wide.round = none from rfl, Oper.semAt_none, hr]
  exact h
theorem wp_enter {n : Nat} {o : Oper} {next : Act → World → Prop} {Q : Exit → Act → World → Prop} {g : Nat} {vs : Array Value} {R : Value → World → Prop} (hr : (execOp a.eval o).run P w = .ok (.enter g vs) w)
    (hc : ∀ n, CallsIn Fence.wide n P g vs w fun e w' => ∃ v, e = .returned v ∧ R v w') (h : ∀ v w', R v w' → next (a.put o.dst v) w') : o.wpIn Fence.wide n P a w next Q := by
  refine ⟨fun f _ => wide_fn f, ?_⟩
  rw [show Fence.wide.round = none from rfl, Oper.semAt_none, hr]
  refine ⟨fun hd => (by cases hd), (hc (n - 1)).mono ?_⟩
  intro e w' he
  obtain ⟨v, rfl, hR⟩ := he
  exact h v w' hR

theorem target_inv {x : AV} {g : Nat} {first captured : List AV} (h : target x = some (g, first, captured)) : x = .fn (.func g) first captured := by
  unfold target at h
  split at h
  · cases h; rfl
  · cases h

theorem evs_get (h : Inv E0 w0 Z G F a w) : ∀ (l : List Operand) (j : Nat) (x : AV) (v : Value), (evs F l)[j]? = some x → (l.map a.eval)[j]? = some v → Opd G F Z x v
  | [], j, x, v, hx, _ => by simp [evs] at hx
  | y :: l, 0, x, v, hx, hv => by simp [evs] at hx hv; subst hx; subst hv; exact opd h y
  | y :: l, j + 1, x, v, hx, hv => evs_get h l j x v (by simpa [evs] using hx) (by simpa using hv)
theorem evs_len (F : St) : ∀ l : List Operand, (evs F l).length = l.length
  | [] => rfl
  | x :: l => by simp [evs, evs_len F l]

/-! ### The test of sameness -/
theorem sameL_eq {α : Type} {f : α → α → Bool} (hf : ∀ x y, f x y = true → x = y) : ∀ (l l' : List α), sameL f l l' = true → l = l'
  | [], [], _ => rfl
  | [], _ :: _, h => by simp [sameL] at h
  | _ :: _, [], h => by simp [sameL] at h
  | x :: xs, y :: ys, h => by
    simp only [sameL, Bool.and_eq_true] at h
    rw [hf x y h.1, sameL_eq hf xs ys h.2]
theorem sameV_eq {u v : Value} (h : sameV u v = true) : u = v := by
  unfold sameV at h
  split at h
  · simp at h; rw [h]
  · simp at h; rw [h.1, h.2]
  · rename_i a b
    simp at h
    cases a; cases b
    simp at h
    rw [h]
  · rfl
  · rfl
  · rfl
  · cases h
theorem sameA_eq : ∀ (d : Nat) (x y : AV), sameA d x y = true → x = y
  | 0, x, y, h => by simp [sameA] at h
  | d + 1, x, y, h => by
    unfold sameA at h
    split at h
    · rw [sameV_eq h]
    · simp only [Bool.and_eq_true, beq_iff_eq, decide_eq_true_eq] at h
      obtain ⟨⟨h1, h2⟩, h3⟩ := h
      rw [sameL_eq (sameL_eq (sameA_eq d)) _ _ h1, h2, h3]
    · simp only [Bool.and_eq_true, beq_iff_eq] at h
      rw [sameL_eq (sameA_eq d) _ _ h.1, h.2]
    · simp only [Bool.and_eq_true, beq_iff_eq] at h
      rw [h.1, h.2]
    · simp only [Bool.and_eq_true, beq_iff_eq] at h
      obtain ⟨⟨⟨⟨h1, h2⟩, h3⟩, h4⟩, h5⟩ := h
      rw [h1, h2, h3, h4, h5]
    · rw [sameL_eq (sameA_eq d) _ _ h]
    · cases h
theorem sameH_eq {H H' : List (List AV)} (h : sameH H H' = true) : H = H' := sameL_eq (sameL_eq (sameA_eq 9)) H H' h

/-- Lists side by side. -/
def All2 (R : AV → Value → Prop) (xs : List AV) (vs : List Value) : Prop := vs.length = xs.length ∧ ∀ (j : Nat) (x : AV) (v : Value), xs[j]? = some x → vs[j]? = some v → R x v
theorem All2.append {R : AV → Value → Prop} {xs ys : List AV} {us vs : List Value} (h : All2 R xs us) (k : All2 R ys vs) : All2 R (xs ++ ys) (us ++ vs) := by
  refine ⟨by simp [h.1, k.1], fun j x v hx hv => ?_⟩
  by_cases hj : j < xs.length
  · rw [List.getElem?_append_left hj] at hx
    rw [List.getElem?_append_left (by rw [h.1]; exact hj)] at hv
    exact h.2 j x v hx hv
  · rw [List.getElem?_append_right (by omega)] at hx
    rw [List.getElem?_append_right (by rw [h.1]; omega), h.1] at hv
    exact k.2 _ x v hx hv
theorem All2.map {R R' : AV → Value → Prop} {xs : List AV} {vs : List Value} (h : All2 R xs vs) {f : AV → AV} (hf : ∀ x v, x ∈ xs → R x v → R' (f x) v) : All2 R' (xs.map f) vs := by
  refine ⟨by simp [h.1], fun j x v hx hv => ?_⟩
  rw [List.getElem?_map] at hx
  simp only [Option.map_eq_some_iff] at hx
  obtain ⟨y, hy, rfl⟩ := hx
  exact hf y v (List.mem_of_getElem? hy) (h.2 j y v hy hv)

theorem hpre (h : Inv E0 w0 Z G F a w) : HPre w G.S G.E F.H where
  mem := h.mem
  eH := h.rel.2.2.2.2
  heap l cs hl := by
    obtain ⟨b, vs, h1, h2, h3, h4⟩ := h.obj l cs hl
    exact ⟨b, vs, h1, h4⟩
  inj l l' b h1 h2 := by
    have e1 := (h.objE h1).2.1
    have e2 := (h.objE h2).2.1
    rw [e1] at e2
    cases e2
    rfl
theorem hpre0 (h : Inv E0 w0 Z G F a w) : HPre w G.S noE [] where
  mem := h.mem
  eH l b hb := by cases hb
  heap l cs hl := by simp at hl
  inj l l' b h1 := by cases h1

/-- The contracts that the evaluator leans on. -/
structure Sound (cfg : Cfg) (K : KF) : Prop where
  k : ∀ g as H r H', K g as H = some (r, H') → CSound cfg.P g as H r H'
  x : ∀ g s as r, cfg.ext g = some s → s as = some r → CSound cfg.P g as [] r []

theorem callQ_sound {cfg : Cfg} {K : KF} (hs : Sound cfg K) {g : Nat} {as : List AV} {r : AV} (hq : callQ cfg K g as = some r) :
    ∀ (w : World) (S : Addr → Option Value) (vs : List Value), HPre w S noE [] → (∀ x ∈ as, NoId x) → vs.length = as.length → (∀ (j : Nat) (x : AV) (v : Value), as[j]? = some x → vs[j]? = some v → R1 S noE x v) →
      Does cfg.P g vs.toArray w fun v w' => ∃ S' φ, CPost w S noE r [] v S' noE φ w' := by
  intro w S vs hp hni hl ha
  unfold callQ at hq
  split at hq
  · rename_i s hx
    have := hs.x g s as r hx hq w S noE vs hp hni hl ha
    have conv : ∀ v w', (∃ S' E' φ, CPost w S noE r [] v S' E' φ w') → ∃ S' φ, CPost w S noE r [] v S' noE φ w' := fun v w' ⟨S', E', φ, h⟩ => ⟨S', φ, h.drop (.inl rfl)⟩
    rcases this with ⟨v, w', h1, h2⟩ | ⟨h1, h2⟩
    · exact .inl ⟨v, w', h1, conv v w' h2⟩
    · exact .inr ⟨h1, fun n => (h2 n).mono fun e w' ⟨v, he, hv⟩ => ⟨v, he, conv v w' hv⟩⟩
  · split at hq
    · rename_i r' H' hk
      split at hq
      · rename_i hc
        cases hq
        have := hs.k g as [] r H' hk w S noE vs hp hni hl ha
        have conv : ∀ v w', (∃ S' E' φ, CPost w S noE r H' v S' E' φ w') → ∃ S' φ, CPost w S noE r [] v S' noE φ w' := fun v w' ⟨S', E', φ, h⟩ => ⟨S', φ, h.drop (by simpa using hc)⟩
        rcases this with ⟨v, w', h1, h2⟩ | ⟨h1, h2⟩
        · exact .inl ⟨v, w', h1, conv v w' h2⟩
        · exact .inr ⟨h1, fun n => (h2 n).mono fun e w' ⟨v, he, hv⟩ => ⟨v, he, conv v w' hv⟩⟩
      · cases hq
    · cases hq

theorem Does.wp {n : Nat} {o : Oper} {next : Act → World → Prop} {Q : Exit → Act → World → Prop} {g : Nat} {vs : Array Value} {R : Value → World → Prop} (hd : Does P g vs w R)
    (he : (execOp a.eval o).run P w = (callFunc g vs).run P w) (h : ∀ v w', R v w' → next (a.put o.dst v) w') : o.wpIn Fence.wide n P a w next Q := by
  rcases hd with ⟨v, w', h1, h2⟩ | ⟨h1, h2⟩
  · exact wp_value (he.trans h1) (h v w' h2)
  · exact wp_enter (he.trans h1) h2 h

/-- The arguments of a call of a value. -/
theorem call_args (h : Inv E0 w0 Z G F a w) {o : Oper} {f : Operand} {args : Array Operand} {ts : Array TypeId} (ho : o.op = .call { callee := .value f, args, argTypes := ts }) {g : Nat} {first captured : List AV} (ht : target (F.ev f) = some (g, first, captured))
    (hfree : (first ++ evs F args.toList ++ captured).all AV.free = true) :
    ∃ vs : List Value, (execOp a.eval o).run P w = (callFunc g vs.toArray).run P w ∧ All2 (fun x v => R1 G.S G.E x v) ((first ++ evs F args.toList ++ captured).map strip) vs := by
  have hf := (opd h f).rv
  rw [target_inv ht] at hf
  have hf : R1 G.S G.E (.fn (.func g) first captured) (a.eval f) := hf
  generalize hq : a.eval f = q at hf
  cases hf with
  | fn _ _ _ fs cs hf hc h1 h2 =>
    refine ⟨fs ++ args.toList.map a.eval ++ cs, ?_, ?_⟩
    · have e : (fs ++ args.toList.map a.eval ++ cs).toArray = fs.toArray ++ args.map a.eval ++ cs.toArray := by
        rw [toArr a.eval args]; simp
      rw [e]
      simp [execOp, ho, resolve, hq, Deferred.ofValue, invoke, Sem.run_bind]
    · have hall := List.all_eq_true.1 hfree
      have q : All2 (RV G) (first ++ evs F args.toList ++ captured) (fs ++ args.toList.map a.eval ++ cs) := by
        refine (All2.append ⟨hf, fun j x v hx hv => RV_of (h1 j x v hx hv)⟩ ⟨by simp [evs_len], fun j x v hx hv => (evs_get h _ j x v hx hv).rv⟩).append ⟨hc, fun j x v hx hv => RV_of (h2 j x v hx hv)⟩
      exact q.map fun x v hx hr => strip_R1 (R1_of hr (hall x hx))

theorem opV_sound {cfg : Cfg} {K : KF} (hs : Sound cfg K) (h : Inv E0 w0 Z G F a w) (hz : ∀ n, Z1 lab n → ¬ Z n) {draw : Bool} {ds : List Nat} {o : Oper} {F' : St} (hr : opRunV cfg K draw ds lab o F = some F')
    (hdst : o.dst.isSome = true ∨ ∃ t p x, o.op = .store t p x) {n : Nat} {next : Act → World → Prop} {Q : Exit → Act → World → Prop} (hn : ∀ G' a' w', Inv E0 w0 (fun n => Z n ∨ Z1 lab n) G' F' a' w' → next a' w') :
    o.wpIn Fence.wide n cfg.P a w next Q := by
  have hz' : ∀ n, Z n → ¬ Z1 lab n := fun n h1 h2 => hz n h2 h1
  -- a value put
  have fin : ∀ {x : AV}, F.put o.dst x = some F' → (∀ d, d < F.n → Yields E0 w0 Z lab d G F a w cfg.P o x) → (∃ d, o.dst = some d) → o.wpIn Fence.wide n cfg.P a w next Q := by
    rintro x hp hy ⟨d, hd⟩
    rw [hd] at hp
    simp only [St.put] at hp
    split at hp
    · rename_i hlt
      cases hp
      obtain ⟨v, w', G', h1, h2⟩ := hy d hlt
      refine wp_value h1 (hn G' _ _ ?_)
      rw [hd]
      exact h2
    · cases hp
  have dsome : (∀ t p x, o.op ≠ .store t p x) → ∃ d, o.dst = some d := fun hne => by
    rcases hdst with h1 | ⟨t, p, x, h1⟩
    · exact Option.isSome_iff_exists.1 h1
    · exact (hne t p x h1).elim
  unfold opRunV at hr
  split at hr
  · -- store
    rename_i t p x ho
    split at hr
    · rename_i m hm
      split at hr
      · rename_i hc
        simp only [Option.bind_eq_some_iff] at hr
        obtain ⟨F1, hw, hp⟩ := hr
        obtain ⟨w', h1, h2⟩ := inv_store h ho hm hc.1 hc.2 hw
        refine wp_skip h1 (hn G _ _ ?_)
        cases hd : o.dst with
        | none =>
          rw [hd] at hp
          cases hp
          exact h2.zmono fun n hn => .inl hn
        | some d =>
          rw [hd] at hp
          simp only [St.put] at hp
          split at hp
          · rename_i hlt
            cases hp
            refine (h2.set hlt (by intro g cs h; cases h) ?_ ?_ ?_).zmono fun n hn => .inl hn
            · exact R1.tup [] [] rfl (fun j x v hx => by simp at hx)
            · intro j y u hy; simp [parts, und] at hy
            · rintro n ⟨y, hy, _⟩; simp [parts, und] at hy
          · cases hp
      · cases hr
    · cases hr
  · -- makeFunc
    rename_i f first captured ho
    split at hr
    · rename_i fs F1 h1
      split at hr
      · rename_i cs F2 h2
        obtain ⟨d, hd⟩ := dsome (by intro t p x hh; rw [ho] at hh; cases hh)
        rw [hd] at hr
        simp only [St.put] at hr
        split at hr
        · rename_i hlt
          cases hr
          obtain ⟨v, G', q1, q2⟩ := makeFunc_sound (P := cfg.P) h ho h1 h2 hlt
          refine wp_value q1 (hn G' _ _ ?_)
          rw [hd]
          exact q2.zmono fun n hn => .inl hn
        · cases hr
      · cases hr
    · cases hr
  · -- call
    rename_i c ho
    have dex := dsome (by intro t p x hh; rw [ho] at hh; cases hh)
    obtain ⟨callee, args, ts⟩ := c
    dsimp only at hr
    split at hr
    · -- append
      split at hr
      · rename_i s x t hargs ht
        simp only [Option.bind_eq_some_iff] at hr
        obtain ⟨⟨v, al'⟩, hv, hp⟩ := hr
        obtain ⟨d, hd⟩ := dex
        have ea : args = #[s, x] := by
          rw [← Array.toArray_toList (xs := args), hargs]
        subst ea
        rw [hd] at hp
        simp only [St.putAl, St.put] at hp
        split at hp
        · rename_i hlt
          cases hp
          obtain ⟨r, w', G', q1, q2⟩ := append_sound h hz hlt ho ht hv
          refine wp_value q1 (hn G' _ _ ?_)
          rw [hd]
          exact q2
        · cases hp
      · cases hr
    · -- builtin
      rename_i b hb hcal
      simp only [Option.bind_eq_some_iff] at hr
      obtain ⟨v, hv, hp⟩ := hr
      exact fin hp (fun d hd => builtin_sound h hd ho hv) dex
    · -- a value
      rename_i f
      split at hr
      · rename_i g first captured ht
        split at hr
        · rename_i hfree
          obtain ⟨vs, he, hall⟩ := call_args (P := cfg.P) h ho ht hfree
          obtain ⟨d, hd⟩ := dex
          have hni : ∀ x ∈ (first ++ evs F args.toList ++ captured).map strip, NoId x := by
            intro x hx
            obtain ⟨y, hy, rfl⟩ := List.mem_map.1 hx
            have := List.all_eq_true.1 hfree y hy
            exact noId_strip (by rintro g cs rfl; cases this)
          split at hr
          · -- it turns the heap
            split at hr
            · simp only [Option.bind_eq_some_iff] at hr
              obtain ⟨⟨r, H'⟩, hk, hr⟩ := hr
              split at hr
              · rename_i hsame
                have hHH := sameH_eq hsame
                dsimp only at hHH
                subst hHH
                rw [hd] at hr
                simp only [St.put] at hr
                split at hr
                · rename_i hlt
                  cases hr
                  refine (hs.k g _ _ _ _ hk w G.S G.E vs (hpre h) hni hall.1 hall.2).wp he ?_
                  rintro v w' ⟨S', E', φ, hc⟩
                  refine hn (Gcall G w lab r S' E' φ) _ _ ?_
                  rw [hd]
                  exact inv_call_bare h hc hz' hlt
                · cases hr
              · cases hr
            · simp only [Option.bind_eq_some_iff] at hr
              obtain ⟨⟨r, H'⟩, hk, hr⟩ := hr
              split at hr
              · rename_i hsz
                rw [hd] at hr
                simp only [St.putAl, St.put] at hr
                split at hr
                · rename_i hlt
                  cases hr
                  refine (hs.k g _ _ _ _ hk w G.S G.E vs (hpre h) hni hall.1 hall.2).wp he ?_
                  rintro v w' ⟨S', E', φ, hc⟩
                  refine hn (Gcall G w lab r S' E' φ) _ _ ?_
                  rw [hd]
                  exact inv_call h hc hz' hsz hlt
                · cases hr
              · cases hr
          · split at hr
            · rename_i hne hpure
              simp only [Option.bind_eq_some_iff] at hr
              obtain ⟨r, hq, hr⟩ := hr
              have hargs : ∀ (j : Nat) (x : AV) (v : Value), ((first ++ evs F args.toList ++ captured).map strip)[j]? = some x → vs[j]? = some v → R1 G.S noE x v := by
                intro j x v hx hv
                have hr1 := hall.2 j x v hx hv
                simp only [Bool.or_eq_true] at hpure
                rcases hpure with hp | hp
                · refine R1.mono (fun _ _ h => h) (fun l b hb => ?_) hr1
                  have := h.rel.2.2.2.2 l b hb
                  simp at hp
                  rw [hp] at this
                  simp at this
                · exact nohp_R1 9 (List.all_eq_true.1 hp x (List.mem_of_getElem? hx)) hr1
              have hD := callQ_sound hs hq w G.S vs (hpre0 h) hni hall.1 hargs
              refine hD.wp he ?_
              rintro v w' ⟨S', φ, hc⟩
              have hc := CPost.lift h hc
              rw [hd] at hr
              split at hr
              · simp only [St.put] at hr
                split at hr
                · rename_i hlt
                  cases hr
                  refine hn (Gcall G w lab r S' G.E φ) _ _ ?_
                  rw [hd]
                  exact inv_call_bare h hc hz' hlt
                · cases hr
              · split at hr
                · rename_i hsz
                  simp only [St.putAl, St.put] at hr
                  split at hr
                  · rename_i hlt
                    cases hr
                    refine hn (Gcall G w lab r S' G.E φ) _ _ ?_
                    rw [hd]
                    exact inv_call h hc hz' hsz hlt
                  · cases hr
                · cases hr
            · cases hr
        · cases hr
      · cases hr
    · cases hr
  · -- the quiet ones
    rename_i op hne1 hne2 hne3
    simp only [Option.bind_eq_some_iff] at hr
    obtain ⟨v, hv, hp⟩ := hr
    exact fin hp (fun d hd => quiet_sound h hz hd hv) (dsome hne1)
def Gh.addObj (G : Gh) (l b : Nat) : Gh := { G with E := fun k => if k = l then some b else G.E k, u := fun k => if k = b then some (.obj l) else G.u k }
/-- What is laid on the heap. -/
theorem inv_alloc (h : Inv E0 w0 Z G F a w) {cs : List AV} {vs : Array Value} {ty : TypeId} (hp : PW G cs vs) :
    Inv E0 w0 Z (G.addObj F.H.length w.heap.size) { F with H := F.H ++ [cs] } a (w.alloc (.cells vs ty)) := by
  have hEn : G.E F.H.length = none := by
    cases he : G.E F.H.length with
    | none => rfl
    | some b => have := h.rel.2.2.2.2 _ _ he; omega
  have hE : ∀ l b, G.E l = some b → (if l = F.H.length then some w.heap.size else G.E l) = some b := by
    intro l b hb
    rw [if_neg]
    · exact hb
    · rintro rfl; rw [hEn] at hb; cases hb
  have hold : ∀ b, b < w.heap.size → (w.alloc (.cells vs ty)).heap[b]? = w.heap[b]? := fun b hb => Below.heap_alloc w _ b hb
  have hu : ∀ b, b < w.heap.size → (if b = w.heap.size then some (Tg.obj F.H.length) else G.u b) = G.u b := fun b hb => by rw [if_neg (by omega)]
  have hnew : (w.alloc (.cells vs ty)).heap[w.heap.size]? = some (.cells vs ty (0, 0)) := by
    show (w.heap.push _)[w.heap.size]? = _
    simp
  have hH1 : ∀ {b : Nat} {cs : List AV} {us : Array Value}, b < w.heap.size → Holds1 G w b cs us → Holds1 (G.addObj F.H.length w.heap.size) (w.alloc (.cells vs ty)) b cs us := by
    rintro b cs us hb ⟨⟨t, g1⟩, g2, g3, g4, g5⟩
    exact ⟨⟨t, (hold b hb).trans g1⟩, g2, g3, fun j x v hx hv => R1.mono (fun _ _ h => h) hE (g4 j x v hx hv), g5⟩
  have hSnew : ∀ ad : Addr, ad.block = w.heap.size → G.S ad = none := by
    intro ad hb
    cases hS : G.S ad with
    | none => rfl
    | some v => have := h.mem.lt hS; omega
  refine ⟨h.nsz, h.df, fun i => RV.mono (G := G) (G' := G.addObj F.H.length w.heap.size) (fun _ _ h => h) hE (fun _ _ h => h) (h.slot i), h.cl, h.ids, fun ad v hv => ?_, h.bel.trans ⟨rfl, rfl, rfl, by simp, fun k hk _ => hold k hk⟩,
    ⟨h.rel.1, h.rel.2.1, fun l b hb => hE _ _ (h.rel.2.2.1 l b hb), fun l b h0 hb => ?_, fun l b hb => ?_⟩, fun i g cs' hc => ?_, fun n ha => ?_, fun l cs' hl => ?_, h.zB, h.zal, fun b hb => ?_⟩
  · have := h.mem.lt hv
    rw [World.cell?_of_block (w := w) (hold _ this)]
    exact h.mem ad v hv
  · have hb : (if l = F.H.length then some w.heap.size else G.E l) = some b := hb
    split at hb
    · cases hb; exact h.bel.size
    · exact h.rel.2.2.2.1 l b h0 hb
  · have hb : (if l = F.H.length then some w.heap.size else G.E l) = some b := hb
    show l < (F.H ++ [cs]).length
    simp only [List.length_append, List.length_singleton]
    split at hb
    · omega
    · have := h.rel.2.2.2.2 l b hb; omega
  · obtain ⟨b, us, h1, h2, h3, h4, h5⟩ := h.box i g cs' hc
    have hb := h.live b (by rw [h3]; rfl)
    exact ⟨b, us, h1, h2, (hu b hb).trans h3, hH1 hb h4, h5⟩
  · obtain ⟨h1, h2, ⟨us, t, h3, h3'⟩, h4, h5⟩ := h.row n ha
    have hb := h.live _ (by rw [h2]; rfl)
    exact ⟨h1, (hu _ hb).trans h2, ⟨us, t, (hold _ hb).trans h3, h3'⟩, h4, h5⟩
  · have hl : (F.H ++ [cs])[l]? = some cs' := hl
    by_cases hlt : l < F.H.length
    · rw [List.getElem?_append_left hlt] at hl
      obtain ⟨b, us, h1, h2, h3, h4⟩ := h.obj l cs' hl
      have hb := h.live b (by rw [h3]; rfl)
      exact ⟨b, us, hE _ _ h1, h2, (hu b hb).trans h3, hH1 hb h4⟩
    · have hle : l = F.H.length := by
        have := (List.getElem?_eq_some_iff.1 hl).1
        simp at this
        omega
      subst hle
      simp at hl
      subst hl
      refine ⟨w.heap.size, vs, if_pos rfl, .inl h.bel.size, if_pos rfl, ⟨ty, hnew⟩, hp.1, hp.2.1, fun j x v hx hv => R1.mono (fun _ _ h => h) hE (hp.2.2 j x v hx hv), hSnew⟩
  · have hb : (if b = w.heap.size then some (Tg.obj F.H.length) else G.u b).isSome = true := hb
    split at hb
    · rename_i e; subst e; simp
    · have := h.live b hb; simp; omega

theorem RW.flat {G : Gh} {sz : Nat} {rows : List (List AV)} {vs : Array Value} (h : RW G sz rows vs) (hpos : 0 < sz) : PW G rows.flatten vs := by
  have hlen : ∀ (rows : List (List AV)), (∀ r ∈ rows, r.length = sz) → rows.flatten.length = rows.length * sz := by
    intro rows
    induction rows with
    | nil => intro _; simp
    | cons r rs ih =>
      intro hr
      simp only [List.flatten_cons, List.length_append, List.length_cons, ih fun x hx => hr x (by simp [hx]), hr r (by simp)]
      rw [Nat.add_mul, Nat.one_mul, Nat.add_comm]
  have hget : ∀ (rows : List (List AV)), (∀ r ∈ rows, r.length = sz) → ∀ (k : Nat) (x : AV), rows.flatten[k]? = some x → cellAt rows (k / sz) (k % sz) = some x := by
    intro rows
    induction rows with
    | nil => intro _ k x hx; simp at hx
    | cons r rs ih =>
      intro hr k x hx
      have hrl := hr r (by simp)
      simp only [List.flatten_cons] at hx
      by_cases hk : k < sz
      · rw [List.getElem?_append_left (by omega)] at hx
        rw [Nat.div_eq_of_lt hk, Nat.mod_eq_of_lt hk]
        simpa [cellAt] using hx
      · rw [List.getElem?_append_right (by omega), hrl] at hx
        have := ih (fun x hx => hr x (by simp [hx])) _ _ hx
        have e1 : k / sz = (k - sz) / sz + 1 := by rw [← Nat.sub_add_cancel (Nat.le_of_not_lt hk), Nat.add_div_right _ hpos]; simp
        have e2 : k % sz = (k - sz) % sz := by rw [← Nat.sub_add_cancel (Nat.le_of_not_lt hk), Nat.add_mod_right]; simp
        rw [e1, e2]
        simpa [cellAt] using this
  refine ⟨by rw [h.1, hlen rows h.2.1], fun x hx => ?_, fun k x v hx hv => ?_⟩
  · obtain ⟨k, hk⟩ := List.getElem?_of_mem hx
    exact h.2.2.1 _ _ _ (hget rows h.2.1 k x hk)
  · obtain ⟨u, e1, e2⟩ := h.2.2.2 _ _ _ (hget rows h.2.1 k x hx)
    rw [show k / sz * sz + k % sz = k by rw [Nat.mul_comm]; exact Nat.div_add_mod k sz, hv] at e1
    cases e1
    exact e2

theorem allocH_sound (h : Inv E0 w0 Z G F a w) {o : Oper} {cs : List AV} {x : AV} (ha : allocH P F o.op = some (cs, x)) {d : Nat} (hd : d < F.n) :
    ∃ v w' G', (execOp a.eval o).run P w = .ok (.value v) w' ∧ Inv E0 w0 Z G' { F with H := F.H ++ [cs], t := upd F.t d x } (a.put (some d) v) w' := by
  have fin : ∀ (vs : Array Value) (ty : TypeId) (v : Value), PW G cs vs → (execOp a.eval o).run P w = .ok (.value v) (w.alloc (.cells vs ty)) → R1 G.S (fun l => if l = F.H.length then some w.heap.size else G.E l) x v → NoId x →
      ∃ v w' G', (execOp a.eval o).run P w = .ok (.value v) w' ∧ Inv E0 w0 Z G' { F with H := F.H ++ [cs], t := upd F.t d x } (a.put (some d) v) w' := by
    intro vs ty v hp hrun hx hni
    have h1 := inv_alloc (ty := ty) h hp
    refine ⟨v, _, _, hrun, h1.set hd hx.nobox (RV_of hx) (Cl_of_noId hni) fun n hn => (hni n hn).elim⟩
  generalize ho : o.op = op at ha
  have rowcase : ∀ {rows : List (List AV)} {own : Own} {sz : Nat}, (∃ us ty, (execOp a.eval o).run P w = .ok (.value (.slice (some ⟨w.heap.size, 0, none⟩) rows.length rows.length)) (w.alloc (.cells us ty)) ∧ RW G sz rows us) → sz ≠ 0 → cs = rows.flatten → x = .hs F.H.length 0 rows.length rows.length sz →
      ∃ v w' G', (execOp a.eval o).run P w = .ok (.value v) w' ∧ Inv E0 w0 Z G' { F with H := F.H ++ [cs], t := upd F.t d x } (a.put (some d) v) w' := by
    rintro rows own sz ⟨us, ty, hrun, hRW⟩ hne rfl rfl
    refine fin us ty _ (hRW.flat (Nat.pos_of_ne_zero hne)) hrun (.hs _ _ _ _ _ _ (by simp)) ?_
    rintro n ⟨y, hy, rows, nl, rfl⟩; simp [parts] at hy
  cases op <;> simp only [allocH] at ha <;> first | (cases ha; done) | skip
  case alloc e =>
    split at ha
    · simp only [Option.map_eq_some_iff] at ha
      obtain ⟨c, hc, he⟩ := ha
      cases he
      obtain ⟨i, z, h1, h2, rfl, hp, hl⟩ := tzero_info hc
      refine fin z.cells e (.pointer (some ⟨w.heap.size, 0, none⟩)) ⟨hl.symm, hp, absV_cells G z hp⟩ ?_ (.hp _ _ _ (by simp)) ?_
      · simp [execOp, ho, Instr.alloc, Sem.run_bind, run_zero h1 h2, newVar, newRow]
      · rintro n ⟨y, hy, rows, nl, rfl⟩; simp [parts] at hy
    · cases ha
  case box e y =>
    split at ha
    · rename_i hc
      simp only [Bool.and_eq_true] at hc
      cases ha
      have hr := opd_R1 (opd h y) (storable_free hc.2)
      refine fin (a.eval y).cells e (.pointer (some ⟨w.heap.size, 0, none⟩)) (cells_R1 hr hc.2).strip ?_ (.hp _ _ _ (by simp)) ?_
      · simp [execOp, ho, Instr.box, Sem.run_bind, newVar, newRow]
      · rintro n ⟨y, hy, rows, nl, rfl⟩; simp [parts] at hy
    · cases ha
  case buildSlice t len ps =>
    split at ha
    · split at ha
      · rename_i rows own sz hq hsz
        split at ha
        · cases ha
        · cases ha
          simp only [quiet] at hq
          split at hq
          · rename_i e he
            split at hq
            · rename_i z sz' h1 h2
              split at hq
              · rename_i hc
                simp only [Option.map_eq_some_iff] at hq
                obtain ⟨rows', hr, hre⟩ := hq
                cases hre
                have hss : sz' = sz := by
                  rw [he] at hsz
                  simp only [Option.bind_some] at hsz
                  rw [h2] at hsz
                  exact Option.some.inj hsz
                subst hss
                exact rowcase (own := .no) (buildSlice_run h ho he h1 h2 hc hr) hc.2.2 rfl rfl
              · cases hq
            · cases hq
          · cases hq
      · cases ha
    · cases ha
  case makeSlice t y z =>
    split at ha
    · split at ha
      · rename_i rows own sz hq hsz
        split at ha
        · cases ha
        · cases ha
          simp only [quiet] at hq
          split at hq
          · rename_i e n k he hn hk
            split at hq
            · rename_i zc sz' by_ h1 h2 h3
              split at hq
              · rename_i hc
                obtain ⟨rfl, c1, c2, c3, c4, c5⟩ := hc
                cases hq
                have hss : sz' = sz := by
                  rw [he] at hsz
                  simp only [Option.bind_some] at hsz
                  rw [h2] at hsz
                  exact Option.some.inj hsz
                subst hss
                exact rowcase (own := .no) (makeSlice_run h ho he hn hk h1 h2 h3 c1 c2 c3 c4 c5) c5 rfl rfl
              · cases hq
            · cases hq
          · cases hq
      · cases ha
    · cases ha

theorem op_sound {cfg : Cfg} {K : KF} (hs : Sound cfg K) (h : Inv E0 w0 Z G F a w) (hz : ∀ n, Z1 lab n → ¬ Z n) {draw : Bool} {ds : List Nat} {o : Oper} {F' : St} (hr : opRun cfg K draw ds lab o F = some F')
    (hdst : o.dst.isSome = true ∨ ∃ t p x, o.op = .store t p x) {n : Nat} {next : Act → World → Prop} {Q : Exit → Act → World → Prop} (hn : ∀ G' a' w', Inv E0 w0 (fun n => Z n ∨ Z1 lab n) G' F' a' w' → next a' w') :
    o.wpIn Fence.wide n cfg.P a w next Q := by
  unfold opRun at hr
  split at hr
  · rename_i cs x ha
    split at hr
    · cases hr
    · rcases hdst with h1 | ⟨t, p, y, h1⟩
      · obtain ⟨d, hd⟩ := Option.isSome_iff_exists.1 h1
        rw [hd] at hr
        simp only [St.put] at hr
        split at hr
        · rename_i hlt
          cases hr
          obtain ⟨v, w', G', e1, e2⟩ := allocH_sound h ha hlt
          refine wp_value e1 (hn G' _ _ ?_)
          rw [hd]
          exact e2.zmono fun n hn => .inl hn
        · cases hr
      · rw [h1] at ha
        simp [allocH] at ha
  · exact opV_sound hs h hz hr hdst hn
end
end Go.Proofs.V
