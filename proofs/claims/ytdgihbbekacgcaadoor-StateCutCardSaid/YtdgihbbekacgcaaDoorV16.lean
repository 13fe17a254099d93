/- Captured variables, builtins, and what a call owes. -/
import Derived.Test.YtdgihbbekacgcaaDoorV15
namespace Go.Proofs.V
open Go Go.RowKit
set_option linter.unusedVariables false
set_option linter.unusedSimpArgs false

section
variable {E0 : Nat → Prop} {w0 : Ent} {Z : Nat → Prop} {G : Gh} {F : St} {a : Act} {w : World} {P : Program} {lab d : Nat}

/-- A box becomes a row that nobody writes. -/
theorem inv_freeze1 (h : Inv E0 w0 Z G F a w) {i g : Nat} {cs : List AV} (hi : F.t i = .box g cs) : ∃ G', Inv E0 w0 Z G' { F with t := upd F.t i (.ref (cs.map strip1) 0) } a w ∧ (∀ ad v, G.S ad = some v → G'.S ad = some v) ∧ G'.E = G.E := by
  obtain ⟨b, vs, hB, hb0, hu, ⟨⟨ty, hheap⟩, hsz, hpl, hR, hS⟩, hcl⟩ := h.box i g cs hi
  let G' : Gh := { G with S := fun ad => if ad.block = b ∧ ad.spot = none then vs[ad.off]? else G.S ad, u := fun k => if k = b then none else G.u k }
  have hSS : ∀ ad v, G.S ad = some v → G'.S ad = some v := fun ad v hv => by
    simp only [G']
    rw [if_neg (by rintro ⟨q, _⟩; rw [hS ad q] at hv; cases hv)]
    exact hv
  have hblt := h.live b (by rw [hu]; rfl)
  have hRR : ∀ {x : AV} {v : Value}, R1 G.S G.E x v → R1 G'.S G'.E x v := fun hr => R1.mono hSS (fun l b hb => hb) hr
  have hRV : ∀ {x : AV} {v : Value}, RV G x v → RV G' x v := by
    intro x v hr
    cases x with
    | fp p q r => exact hr
    | box p q => exact hr
    | _ => exact hRR hr
  have hSn : ∀ ad : Addr, ad.block ≠ b → G.S ad = none → G'.S ad = none := fun ad h1 h2 => by
    simp only [G']
    rw [if_neg (by rintro ⟨q, _⟩; exact h1 q)]
    exact h2
  have hne : ∀ {b' : Nat} {tg : Tg}, G.u b' = some tg → tg ≠ .slot i → b' ≠ b := by
    rintro b' tg h1 h2 rfl
    rw [hu] at h1
    exact h2 (Option.some.inj h1).symm
  have hHolds : ∀ {b' : Nat} {cs : List AV} {vs : Array Value}, b' ≠ b → Holds1 G w b' cs vs → Holds1 G' w b' cs vs := by
    rintro b' cs vs hne ⟨q1, q2, q3, q4, q5⟩
    exact ⟨q1, q2, q3, fun j x v hx hv => hRR (q4 j x v hx hv), fun ad ha => hSn ad (by rw [ha]; exact hne) (q5 ad ha)⟩
  have hslot := h.slot i
  rw [hi] at hslot
  obtain ⟨b', hb', hav⟩ := hslot
  rw [hB] at hb'
  have := Option.some.inj hb'; subst this
  refine ⟨G', ?_, hSS, rfl⟩
  exact {
    nsz := h.nsz
    df := h.df
    slot := fun j => by
      simp only [upd_apply]
      split
      · rename_i hj
        subst hj
        rw [hav]
        have hval : ∀ (k : Nat) (x : AV), (cs.map strip1)[k]? = some x → ∃ y, cs[k]? = some y ∧ x = strip1 y ∧ vs[k]? = some (vs.getD k Go.undef) := by
          intro k x hx
          rw [List.getElem?_map] at hx
          simp only [Option.map_eq_some_iff] at hx
          obtain ⟨y, hy, rfl⟩ := hx
          have hk : k < vs.size := by rw [hsz]; exact (List.getElem?_eq_some_iff.1 hy).1
          exact ⟨y, hy, rfl, by simp [Array.getD, hk]⟩
        have := R1.ref (S := G'.S) (E := G'.E) (cs.map strip1) 0 b 0 (fun k => vs.getD k Go.undef) (fun x hx => by
            obtain ⟨y, hy, rfl⟩ := List.mem_map.1 hx
            rw [plain_strip1]; exact hpl y hy) (fun k x hx => by
            obtain ⟨y, _, _, hv⟩ := hval k x hx
            simp only [G', Nat.zero_add, and_self, if_true]
            exact hv) (fun k x hx => by
            obtain ⟨y, hy, rfl, hv⟩ := hval k x hx
            exact strip1_R1 (hRR (hR k y _ hy hv)))
        exact this
      · exact hRV (h.slot j)
    cl := fun j hb' => by
      simp only [upd_apply] at hb' ⊢
      split
      · exact Cl_of_noId (by rintro n ⟨y, hy, rows, nl, rfl⟩; simp [parts] at hy)
      · rename_i hj; exact h.cl j (by simpa only [hj, if_false] using hb')
    ids := fun j n => by
      simp only [upd_apply]
      split
      · rintro ⟨y, hy, rows, nl, rfl⟩; simp [parts] at hy
      · exact h.ids j n
    mem := fun ad v hv => by
      simp only [G'] at hv
      split at hv
      · rename_i hq
        obtain ⟨b2, o, s⟩ := ad
        obtain ⟨rfl, rfl⟩ := hq
        simp only [World.cell?, hheap]
        exact hv
      · exact h.mem ad v hv
    bel := h.bel
    rel := ⟨fun ad v hv => hSS _ _ (h.rel.1 ad v hv), fun ad h0 hb => hSn ad (by omega) (h.rel.2.1 ad h0 hb), h.rel.2.2.1, h.rel.2.2.2.1, h.rel.2.2.2.2⟩
    box := fun j gg cs' hj => by
      simp only [upd_apply] at hj
      split at hj
      · cases hj
      · rename_i hji
        obtain ⟨b2, vs2, q1, q2, q3, q4, q5⟩ := h.box j gg cs' hj
        have hn := hne q3 (by intro e; injection e with e; exact hji e)
        exact ⟨b2, vs2, q1, q2, by simp only [G']; rw [if_neg hn]; exact q3, hHolds hn q4, q5⟩
    row := fun n ha => by
      obtain ⟨q1, q2, q3, q4, q5⟩ := h.row n ha
      have hn := hne q2 (by intro e; cases e)
      exact ⟨q1, by simp only [G']; rw [if_neg hn]; exact q2, q3, q4, fun o ho => hSn _ hn (q5 o ho)⟩
    obj := fun l cs' hl => by
      obtain ⟨b2, vs2, q1, q2, q3, q4⟩ := h.obj l cs' hl
      have hn := hne q3 (by intro e; cases e)
      exact ⟨b2, vs2, q1, q2, by simp only [G']; rw [if_neg hn]; exact q3, hHolds hn q4⟩
    zB := h.zB
    zal := h.zal
    live := fun k hk => by
      simp only [G'] at hk
      split at hk
      · cases hk
      · exact h.live k hk }

theorem freezeL_sound : ∀ (l : List Operand) {G : Gh} {F : St} {xs : List AV} {F1 : St}, Inv E0 w0 Z G F a w → freezeL F l = some (xs, F1) → ∃ G1, Inv E0 w0 Z G1 F1 a w ∧ (∀ ad v, G.S ad = some v → G1.S ad = some v) ∧ G1.E = G.E ∧ xs.length = l.length ∧ (∀ (j : Nat) (x : AV) (o : Operand), xs[j]? = some x → l[j]? = some o → R1 G1.S G1.E x (a.eval o)) ∧ F1.n = F.n
  | [], G, F, xs, F1, h, hf => by simp [freezeL] at hf; obtain ⟨rfl, rfl⟩ := hf; exact ⟨G, h, fun _ _ h => h, rfl, rfl, fun j x o hx => by simp at hx, rfl⟩
  | op :: l, G, F, xs, F1, h, hf => by
    have other : ∀ {y : AV}, R1 G.S G.E y (a.eval op) → (freezeL F l).map (fun r => (y :: r.1, r.2)) = some (xs, F1) → ∃ G1, Inv E0 w0 Z G1 F1 a w ∧ (∀ ad v, G.S ad = some v → G1.S ad = some v) ∧ G1.E = G.E ∧ xs.length = (op :: l).length ∧ (∀ (j : Nat) (x : AV) (o : Operand), xs[j]? = some x → (op :: l)[j]? = some o → R1 G1.S G1.E x (a.eval o)) ∧ F1.n = F.n := by
      intro y hy hm
      simp only [Option.map_eq_some_iff] at hm
      obtain ⟨⟨ys, F2⟩, hr, he⟩ := hm
      cases he
      obtain ⟨G1, q1, q2, q3, q4, q5, q6⟩ := freezeL_sound l h hr
      refine ⟨G1, q1, q2, q3, by simp [q4], fun j x o hx ho => ?_, q6⟩
      cases j with
      | zero => simp at hx ho; subst hx; subst ho; exact R1.mono q2 (fun l b hb => by rw [q3]; exact hb) hy
      | succ j => exact q5 j x o (by simpa using hx) (by simpa using ho)
    have oth2 : ∀ (hfree : (F.ev op).free = true), (freezeL F l).map (fun r => (strip (F.ev op) :: r.1, r.2)) = some (xs, F1) → ∃ G1, Inv E0 w0 Z G1 F1 a w ∧ (∀ ad v, G.S ad = some v → G1.S ad = some v) ∧ G1.E = G.E ∧ xs.length = (op :: l).length ∧ (∀ (j : Nat) (x : AV) (o : Operand), xs[j]? = some x → (op :: l)[j]? = some o → R1 G1.S G1.E x (a.eval o)) ∧ F1.n = F.n :=
      fun hfree hm => other (strip_R1 (opd_R1 (opd h op) hfree)) hm
    cases op with
    | tmp i =>
      simp only [freezeL] at hf
      split at hf
      · rename_i g cs hi
        simp only [Option.map_eq_some_iff] at hf
        obtain ⟨⟨ys, F2⟩, hr, he⟩ := hf
        cases he
        obtain ⟨G2, q1, q2, q3⟩ := inv_freeze1 h hi
        obtain ⟨G1, r1, r2, r3, r4, r5, r6⟩ := freezeL_sound l q1 hr
        refine ⟨G1, r1, fun ad v hv => r2 _ _ (q2 ad v hv), r3.trans q3, by simp [r4], fun j x o hx ho => ?_, r6⟩
        cases j with
        | zero =>
          simp at hx ho
          subst hx; subst ho
          have hs := q1.slot i
          simp only [upd_same] at hs
          have hs : R1 G2.S G2.E (.ref (cs.map strip1) 0) (a.tmps.getD i Go.undef) := hs
          exact R1.mono r2 (fun l b hb => by rw [r3]; exact hb) hs
        | succ j => exact r5 j x o (by simpa using hx) (by simpa using ho)
      · rename_i hnb
        split at hf
        · rename_i hfree
          have e : F.ev (.tmp i) = F.t i := by
            simp only [St.ev, St.tmp]
            first | done | (split; · rename_i g cs he; exact absurd he (hnb g cs)
                            · rfl)
          exact oth2 (by rw [e]; exact hfree) (by rw [e]; exact hf)
        · cases hf
    | const v =>
      simp only [freezeL] at hf
      split at hf
      · rename_i hfree; exact oth2 hfree hf
      · cases hf
    | global g =>
      simp only [freezeL] at hf
      split at hf
      · rename_i hfree; exact oth2 hfree hf
      · cases hf
    | func f =>
      simp only [freezeL] at hf
      split at hf
      · rename_i hfree; exact oth2 hfree hf
      · cases hf

theorem toArr {α β : Type} (f : α → β) (l : Array α) : l.map f = (l.toList.map f).toArray := by
  apply Array.ext'
  simp

theorem makeFunc_sound (h : Inv E0 w0 Z G F a w) {o : Oper} {f : Fn} {first captured : Array Operand} (ho : o.op = .makeFunc f first captured) {fs cs : List AV} {F1 F2 : St} (h1 : freezeL F first.toList = some (fs, F1)) (h2 : freezeL F1 captured.toList = some (cs, F2)) {d : Nat} (hd : d < F2.n) :
    ∃ v G', (execOp a.eval o).run P w = .ok (.value v) w ∧ Inv E0 w0 Z G' { F2 with t := upd F2.t d (.fn f fs cs) } (a.put (some d) v) w := by
  obtain ⟨G1, q1, q2, q3, q4, q5, q6⟩ := freezeL_sound _ h h1
  obtain ⟨G2, r1, r2, r3, r4, r5, r6⟩ := freezeL_sound _ q1 h2
  refine ⟨.func f (first.map a.eval) (captured.map a.eval), G2, by simp [execOp, ho, Instr.makeFunc, Sem.run_bind], ?_⟩
  have hr : R1 G2.S G2.E (.fn f fs cs) (.func f (first.map a.eval) (captured.map a.eval)) := by
    have e1 : first.map a.eval = (first.toList.map a.eval).toArray := toArr _ _
    have e2 : captured.map a.eval = (captured.toList.map a.eval).toArray := toArr _ _
    rw [e1, e2]
    refine R1.fn f fs cs _ _ (by simp [q4]) (by simp [r4]) (fun j x v hx hv => ?_) (fun j x v hx hv => ?_)
    · rw [List.getElem?_map] at hv
      simp only [Option.map_eq_some_iff] at hv
      obtain ⟨y, hy, rfl⟩ := hv
      exact R1.mono r2 (fun l b hb => by rw [r3]; exact hb) (q5 j x y hx hy)
    · rw [List.getElem?_map] at hv
      simp only [Option.map_eq_some_iff] at hv
      obtain ⟨y, hy, rfl⟩ := hv
      exact r5 j x y hx hy
  have hop : Opd G2 F2 Z (.fn f fs cs) (.func f (first.map a.eval) (captured.map a.eval)) := .of_noId hr (by rintro n ⟨y, hy, rows, nl, rfl⟩; simp [parts] at hy)
  exact r1.set hd hop.nb hop.rv hop.cl hop.ids

/-! ### Builtins -/
theorem evs_vals (h : Inv E0 w0 Z G F a w) : ∀ {l : List Operand} {us : List Value}, vals (evs F l) = some us → l.map a.eval = us
  | [], us, hv => by simp [evs, vals] at hv; subst hv; rfl
  | x :: l, us, hv => by
    simp only [evs, vals] at hv
    split at hv
    · rename_i u us' h1 h2
      have := Option.some.inj hv; subst this
      have e1 : a.eval x = u := by
        have ho := opd h x
        generalize hx : F.ev x = X at *
        have hrv := ho.rv
        cases X <;> first | (cases h1; done) | exact val1_R1 (S := G.S) (E := G.E) h1 hrv
      simp [e1, evs_vals h h2]
    · cases hv
theorem builtin_sound (h : Inv E0 w0 Z G F a w) (hd : d < F.n) {o : Oper} {b : Builtin} {args : Array Operand} {ts : Array TypeId} (ho : o.op = .call { callee := .builtin b, args, argTypes := ts }) {v : AV}
    (hv : builtinA P b ts o.type (args.map isConstOp) (evs F args.toList) = some v) : Yields E0 w0 Z lab d G F a w P o v := by
  have gen : ∀ us, vals (evs F args.toList) = some us → ∀ q, pr P (builtin b ts o.type (args.map isConstOp) us.toArray) = some (.value q) → Yields E0 w0 Z lab d G F a w P o (absV q) := by
    intro us hus q hq
    have e := evs_vals h hus
    refine Yields.same h hd (v := q) ?_ (.of_noId (absV_R1 _ _ q) (noId_absV q))
    have hargs : args.map a.eval = us.toArray := by rw [← e]; exact toArr _ _
    simp only [execOp, ho, resolve, Sem.run_bind, Sem.run_pure, Result.andThen_ok, invoke, hargs]
    refine Eq.trans ?_ (pr_run _ _ hq w)
    congr 3
  unfold builtinA at hv
  split at hv
  · rename_i rows nl own hargs
    split at hv
    · rename_i t ht
      split at hv
      · rename_i htel
        have := Option.some.inj hv; subst this
        obtain ⟨e, he⟩ := Option.isSome_iff_exists.1 htel
        obtain ⟨x, hax⟩ : ∃ x, args = #[x] := by
          have hl : (evs F args.toList).length = args.toList.length := by
            have : ∀ l : List Operand, (evs F l).length = l.length := by
              intro l; induction l with
              | nil => rfl
              | cons x l ih => simp [evs, ih]
            exact this _
          rw [hargs] at hl
          obtain ⟨l⟩ := args
          cases l with
          | nil => simp at hl
          | cons x l => cases l with
            | nil => exact ⟨x, rfl⟩
            | cons y l => simp at hl
        subst hax
        simp [evs] at hargs
        have hxr := (opd h x).rv
        rw [hargs] at hxr
        have hxr : R1 G.S G.E (.slice rows nl own) (a.eval x) := hxr
        obtain ⟨base, cap, hb⟩ : ∃ base cap, a.eval x = .slice base rows.length cap := by
          generalize a.eval x = q at *
          cases hxr
          · exact ⟨_, _, rfl⟩
          · exact ⟨_, _, rfl⟩
        refine Yields.same h hd (v := .int .i64 rows.length) ?_ (.of_noId (.at _) (nid_at _))
        simp [execOp, ho, resolve, invoke, builtin, Sem.run_bind, Builtin.len_, ht, hb, run_underlying (tel_und he), goInt]
      · cases hv
    · cases hv
  · rename_i loc off len cap sz hargs
    split at hv
    · rename_i t ht
      split at hv
      · rename_i htel
        have := Option.some.inj hv; subst this
        obtain ⟨e, he⟩ := Option.isSome_iff_exists.1 htel
        obtain ⟨x, hax⟩ : ∃ x, args = #[x] := by
          have hl : (evs F args.toList).length = args.toList.length := by
            have : ∀ l : List Operand, (evs F l).length = l.length := by
              intro l; induction l with
              | nil => rfl
              | cons x l ih => simp [evs, ih]
            exact this _
          rw [hargs] at hl
          obtain ⟨l⟩ := args
          cases l with
          | nil => simp at hl
          | cons x l => cases l with
            | nil => exact ⟨x, rfl⟩
            | cons y l => simp at hl
        subst hax
        simp [evs] at hargs
        have hxr := (opd h x).rv
        rw [hargs] at hxr
        have hxr : R1 G.S G.E (.hs loc off len cap sz) (a.eval x) := hxr
        obtain ⟨base, hb⟩ : ∃ base, a.eval x = .slice base len cap := by
          generalize a.eval x = q at *
          cases hxr
          exact ⟨_, rfl⟩
        refine Yields.same h hd (v := .int .i64 len) ?_ (.of_noId (.at _) (nid_at _))
        simp [execOp, ho, resolve, invoke, builtin, Sem.run_bind, Builtin.len_, ht, hb, run_underlying (tel_und he), goInt]
      · cases hv
    · cases hv
  · split at hv
    · rename_i us hus
      split at hv
      · rename_i q hq
        have := Option.some.inj hv; subst this
        exact gen us hus q hq
      · cases hv
    · cases hv
end

/-! ### What a call owes -/
structure CPost (w : World) (S : Addr → Option Value) (E : Nat → Option Nat) (r : AV) (H' : List (List AV)) (v : Value) (S' : Addr → Option Value) (E' : Nat → Option Nat) (φ : Nat → Rw) (w' : World) : Prop where
  bel : Bel (fun b => ∃ l, E l = some b) w w'
  sS : ∀ ad u, S ad = some u → S' ad = some u
  sN : ∀ ad : Addr, S ad = none → ad.block < w.heap.size → S' ad = none
  mem : Mem S' w'
  eS : ∀ l b, E l = some b → E' l = some b
  eN : ∀ l b, E l = none → E' l = some b → w.heap.size ≤ b ∧ b < w'.heap.size
  eH : ∀ l b, E' l = some b → l < H'.length
  heap : ∀ l cs, H'[l]? = some cs → ∃ b vs, E' l = some b ∧ Holds1 ⟨S', fun _ => none, E', fun _ => none, φ⟩ w' b cs vs
  inj : ∀ l l' b, E' l = some b → E' l' = some b → l = l'
  rv : R1 S' E' r v
  nid : NoId r
  fresh : ∀ (j : Nat) (u : Value) rows nl, (parts r)[j]? = some (.slice rows nl .fresh) → (vparts v)[j]? = some u → u = .slice (some ⟨(φ j).b, 0, none⟩) rows.length (φ j).cap ∧ nl = false ∧ rows.length = (φ j).len ∧ (∀ r ∈ rows, r.length = (φ j).sz) ∧ w.heap.size ≤ (φ j).b ∧
    (∃ vs ty, w'.heap[(φ j).b]? = some (.cells vs ty (0, 0)) ∧ vs.size = (φ j).cap * (φ j).sz) ∧ (0 < (φ j).len ∧ (φ j).len ≤ (φ j).cap) ∧ (∀ o, (φ j).len * (φ j).sz ≤ o → S' ⟨(φ j).b, o, none⟩ = none) ∧ ∀ l, E' l ≠ some (φ j).b
  apart : ∀ (j j' : Nat) rows nl rows' nl', (parts r)[j]? = some (.slice rows nl .fresh) → (parts r)[j']? = some (.slice rows' nl' .fresh) → (φ j).b = (φ j').b → j = j'

/-- The heap as a call finds it. -/
structure HPre (w : World) (S : Addr → Option Value) (E : Nat → Option Nat) (H : List (List AV)) : Prop where
  mem : Mem S w
  eH : ∀ l b, E l = some b → l < H.length
  heap : ∀ l cs, H[l]? = some cs → ∃ b vs, E l = some b ∧ Holds1 ⟨S, fun _ => none, E, fun _ => none, fun _ => ⟨0, 0, 0, 0⟩⟩ w b cs vs
  inj : ∀ l l' b, E l = some b → E l' = some b → l = l'

/-- A call that ends with a value. -/
def Does (P : Program) (g : Nat) (vs : Array Value) (w : World) (R : Value → World → Prop) : Prop :=
  (∃ v w', (callFunc g vs).run P w = .ok (.value v) w' ∧ R v w') ∨
  ((callFunc g vs).run P w = .ok (.enter g vs) w ∧ ∀ n, CallsIn Fence.wide n P g vs w fun e w' => ∃ v, e = .returned v ∧ R v w')
def CSound (P : Program) (g : Nat) (as : List AV) (H : List (List AV)) (r : AV) (H' : List (List AV)) : Prop :=
  ∀ (w : World) (S : Addr → Option Value) (E : Nat → Option Nat) (vs : List Value), HPre w S E H → (∀ x ∈ as, NoId x) → vs.length = as.length → (∀ (j : Nat) (x : AV) (v : Value), as[j]? = some x → vs[j]? = some v → R1 S E x v) →
    Does P g vs.toArray w fun v w' => ∃ S' E' φ, CPost w S E r H' v S' E' φ w'
end Go.Proofs.V
