/- Regions, drawn or not: what the evaluator says of them holds. -/
import Derived.Test.YtdgihbbekacgcaaGreatDoorK6
import Derived.TacticsIn
namespace Go.Proofs.V
open Go Go.RowKit
set_option linter.unusedVariables false
set_option linter.unusedSimpArgs false
section
variable {E0 : Nat → Prop} {w0 : Ent} {Z : Nat → Prop} {G : Gh} {F : St} {a : Act} {w : World}
theorem guard_wanted (h : Inv E0 w0 Z G F a w) {ops : Array Oper} {o : Oper} {b : Bool} (hg : guardA ops o F = some b) : Region.wanted o (yielded ops a.tmps) = b := by
  unfold guardA at hg
  unfold Region.wanted
  split at hg
  · rename_i h0
    simp only [h0]
    exact Option.some.inj hg
  · rename_i j want h0
    simp only [h0]
    split at hg
    · rename_i hd
      have := Option.some.inj hg
      subst this
      simp [yielded, hd]
    · rename_i d hd
      split at hg
      · rename_i hlt
        have hs := h.slot d
        have hsz : d < a.tmps.size := by rw [h.nsz]; exact hlt
        have hget : a.tmps[d]? = some (a.tmps.getD d Go.undef) := by
          rw [Array.getD_eq_getD_getElem?]
          simp [hsz]
        split at hg
        · rename_i b' hb
          rw [hb] at hs
          have hs : R1 G.S G.E (.at (.bool b')) (a.tmps.getD d Go.undef) := hs
          generalize a.tmps.getD d Go.undef = v at *
          cases hs
          have := Option.some.inj hg
          subst this
          simp [yielded, hd, hget]
        · rename_i hb
          rw [hb] at hs
          have hs : R1 G.S G.E (.tup []) (a.tmps.getD d Go.undef) := hs
          generalize a.tmps.getD d Go.undef = v at *
          cases hs
          have := Option.some.inj hg
          subst this
          simp [yielded, hd, hget]
        · cases hg
      · cases hg

theorem inv_und (h : Inv E0 w0 Z G F a w) {d : Option Nat} {F' : St} (hp : F.put d und = some F') : Inv E0 w0 Z G F' (a.put d undef) w := by
  cases d with
  | none => cases hp; exact h
  | some d =>
    simp only [St.put] at hp
    split at hp
    · rename_i hlt
      cases hp
      refine h.set hlt (by intro g cs h; cases h) ?_ ?_ ?_
      · exact R1.tup [] [] rfl (fun j x v hx => by simp at hx)
      · intro j y u hy; simp [parts, und] at hy
      · rintro n ⟨y, hy, _⟩; simp [parts, und] at hy
    · cases hp

def dstOk (o : Oper) : Prop := o.dst.isSome = true ∨ isStore o.op = true
theorem dstOk_iff {o : Oper} (h : dstOk o) : o.dst.isSome = true ∨ ∃ t p x, o.op = .store t p x := by
  rcases h with h | h
  · exact .inl h
  · unfold isStore at h
    split at h
    · rename_i t p x ho; exact .inr ⟨t, p, x, ho⟩
    · cases h

/-- In the order of the text. -/
theorem ops_sound {ro : Option Nat} {cfg : Cfg} {K : KF} (hs : Sound cfg K) {ops : Array Oper} {n : Nat} {Q : Exit → Act → World → Prop} : ∀ (l : List Oper) (lab : Nat) {Z : Nat → Prop} {G : Gh} {F Fn : St} {a : Act} {w : World}, Inv E0 w0 Z G F a w → (∀ m, Z m → m < lab) →
    opsRun cfg K false [] ops l lab F = some Fn → (∀ o ∈ l, dstOk o) → (∀ G' a' w', Inv E0 w0 (fun m => m < lab + 64 * l.length) G' Fn a' w' → Q .normal a' w') → wpListIn (Fx ro) n cfg.P ops Q l a w
  | [], lab, Z, G, F, Fn, a, w, h, hz, hr, _, hn => by
    cases hr
    exact hn G a w (h.zmono fun m hm => by simpa using hz m hm)
  | o :: l, lab, Z, G, F, Fn, a, w, h, hz, hr, hd, hn => by
    simp only [opsRun] at hr
    obtain ⟨b, hg, hr⟩ := Option.bind_eq_some_iff.1 hr
    obtain ⟨F1, h1, h2⟩ := Option.bind_eq_some_iff.1 hr
    have hw := guard_wanted h hg
    have hn' : ∀ G' a' w', Inv E0 w0 (fun m => m < lab + 64 + 64 * l.length) G' Fn a' w' → Q .normal a' w' := fun G' a' w' h' => hn G' a' w' (h'.zmono fun m hm => by simp only [List.length_cons]; omega)
    simp only [wpListIn, hw]
    cases b with
    | true =>
      simp only [if_true] at h1 ⊢
      refine op_sound hs h (fun m hm hm' => by have := hz m hm'; simp only [Z1] at hm; omega) h1 (dstOk_iff (hd o (by simp))) (fun G' a' w' h' => ?_)
      exact ops_sound hs l (lab + 64) h' (fun m hm => by rcases hm with hm | hm; (· have := hz m hm; omega); (· simp only [Z1] at hm; omega)) h2 (fun o ho => hd o (by simp [ho])) hn'
    | false =>
      simp only [Bool.false_eq_true, if_false] at h1 ⊢
      refine ⟨fun f _ => wide_fn f, ?_⟩
      exact ops_sound hs l (lab + 64) (inv_und h h1) (fun m hm => by have := hz m hm; omega) h2 (fun o ho => hd o (by simp [ho])) hn'

theorem inv_drawn (h : Inv E0 w0 Z G F a w) (k : Nat) : Inv E0 w0 Z G F a { w with drawn := k } :=
  ⟨h.nsz, h.df, h.slot, h.cl, h.ids, h.mem, ⟨h.bel.os, h.bel.tape, h.bel.output, h.bel.size, h.bel.block⟩, h.rel, h.box, h.row, h.obj, h.zB, h.zal, h.live, h.pro, h.bm⟩
end
section
variable {E0 : Nat → Prop} {w0 : Ent}
theorem loose_SP (ops : Array Oper) (h : SP ∈ loose ops) : False := by
  unfold loose at h
  simp only [List.mem_flatMap] at h
  obtain ⟨j, _, h⟩ := h
  split at h
  · split at h
    · split at h
      · simp at h
      · rename_i p _ hc
        simp only [Bool.or_eq_true, not_or, beq_iff_eq] at hc
        simp only [List.mem_cons, List.not_mem_nil, or_false] at h
        rcases h with h | h
        · exact hc.2 h.symm
        · unfold SP LB at h; omega
    · simp at h
  · simp at h
/-- WHATEVER ORDER IS DRAWN. -/
theorem any_sound {ro : Option Nat} {cfg : Cfg} {K : KF} (hs : Sound cfg K) {ops : Array Oper} {n : Nat} {Q : Exit → Act → World → Prop} {ds : List Nat} {c : Nat} (hok : drawOk ops = true) (hhv : blind ds = true → heavyOk cfg ops = true) (hlo : ∀ e, (loose ops).contains e = true → ds.contains e = true) (hds : ∀ o ∈ ops, ∀ e, o.dst = some e → ds.contains e = true) (hdst : ∀ o ∈ ops, dstOk o) {Fn : St}
    (hn : ∀ G' a' w', Inv E0 w0 (fun m => m < c + 64 * ops.size) G' Fn a' w' → Q .normal a' w') :
    ∀ (pend : List (Nat × Oper)) (listed : Array Bool) {Z : Nat → Prop} {G : Gh} {F : St} {a : Act} {w : World}, listed.size = ops.size → (∀ i o, (i, o) ∈ pend ↔ ops[i]? = some o ∧ listed.getD i true = false) →
      pend.Pairwise (fun p q => p.1 < q.1) → (∀ j o, ops[j]? = some o → listed.getD j false = true → ∀ e ∈ o.after, Region.binds .any e = true → listed.getD e.on false = true) →
      Inv E0 w0 Z G F a w → (∀ m, Z m → m < c + 64 * ops.size) → (∀ p ∈ pend, ∀ m, Z1 (c + 64 * p.1) m → ¬ Z m) → runL cfg K ds ops c pend F = some Fn →
      wpAnyIn (Fx ro) n cfg.P .any ops Q pend.length listed a w := by
  intro pend
  generalize hlen : pend.length = fuel
  induction fuel generalizing pend with
  | zero =>
    intro listed Z G F a w hsz hpd hsort hcl h hz hfr hr
    have : pend = [] := List.eq_nil_of_length_eq_zero hlen
    subst this
    cases hr
    refine ⟨?_, hn G a w (h.zmono hz)⟩
    cases hrd : Region.ready .any ops listed with
    | nil => rfl
    | cons i l =>
      have hi : i ∈ Region.ready .any ops listed := by rw [hrd]; simp
      obtain ⟨h1, o, h2, _⟩ := mem_ready.1 hi
      have := (hpd i o).2 ⟨h2, h1⟩
      simp at this
  | succ fuel ih =>
    intro listed Z G F a w hsz hpd hsort hcl h hz hfr hr
    have hokj : ∀ j y, ops[j]? = some y → (∀ e ∈ y.after, Region.binds .any e = true → e.on < j) ∧ ∀ i x, i < j → ops[i]? = some x → ((pairOk ops x y = true ∨ reach ops 4 j i = true) ∨ stPair ops x y = true) ∨ stPair ops y x = true := by
      intro j y hy
      have hj : j < ops.size := (Array.getElem?_eq_some_iff.1 hy).1
      have := List.all_eq_true.1 hok j (List.mem_range.2 hj)
      simp only [hy, Bool.and_eq_true, List.all_eq_true, List.mem_range, Array.all_eq_true'] at this
      refine ⟨fun e he hb => ?_, fun i x hi hx => ?_⟩
      · have := this.1 e he
        simpa [hb] using this
      · have := this.2 i hi
        simpa [hx] using this
    refine ⟨fun hnil => ?_, fun i hi => ?_⟩
    · exfalso
      cases pend with
      | nil => simp at hlen
      | cons p l =>
        obtain ⟨k, o⟩ := p
        have hk := (hpd k o).1 (by simp)
        have : k ∈ Region.ready .any ops listed := by
          refine mem_ready.2 ⟨hk.2, o, hk.1, fun e he hb => ?_⟩
          have hlt := (hokj k o hk.1).1 e he hb
          have hks : k < ops.size := (Array.getElem?_eq_some_iff.1 hk.1).1
          cases hle : listed.getD e.on false with
          | true => rfl
          | false =>
            have heon : e.on < ops.size := by omega
            have h2 : listed.getD e.on true = false := by
              rw [Array.getD_eq_getD_getElem?] at hle ⊢
              have : e.on < listed.size := by omega
              simpa [this] using hle
            have hm := (hpd e.on ops[e.on]).2 ⟨Array.getElem?_eq_getElem heon, h2⟩
            rcases List.mem_cons.1 hm with he' | he'
            · have := congrArg Prod.fst he'
              simp at this
              omega
            · have := (List.pairwise_cons.1 hsort).1 _ he'
              simp at this
              omega
        rw [hnil] at this
        simp at this
    · obtain ⟨hun, o, ho, hall⟩ := mem_ready.1 hi
      have hm := (hpd i o).2 ⟨ho, hun⟩
      obtain ⟨pre, post, rfl⟩ := List.append_of_mem hm
      have hpre : ∀ p ∈ pre, PairOk2 cfg ds ops p.2 o ∧ ∀ e, p.2.dst = some e → ds.contains e = true := by
        rintro ⟨k, y⟩ hp
        have hk := (hpd k y).1 (by simp [hp])
        have hlt : k < i := (List.pairwise_append.1 hsort).2.2 _ hp (i, o) (by simp)
        refine ⟨?_, hds y (Array.mem_of_getElem? hk.1)⟩
        have nre : reach ops 4 i k = true → False := fun hq => by
          have := reach_listed hcl 4 ho hall hq
          have hks : k < listed.size := by rw [hsz]; exact (Array.getElem?_eq_some_iff.1 hk.1).1
          have h2 := hk.2
          rw [Array.getD_eq_getD_getElem?] at this h2
          simp [hks] at this h2
          rw [this] at h2
          cases h2
        rcases (hokj i o ho).2 k y hlt hk.1 with ((hpo | hq) | hp2) | hp2
        rotate_left
        · exact (nre hq).elim
        · exact .inr (.inl hp2)
        · exact .inr (.inr hp2)
        refine .inl ⟨hpo, ?_⟩
        by_cases hb : blind ds = true
        · have := hhv hb
          have hi' : i < ops.size := (Array.getElem?_eq_some_iff.1 ho).1
          have := List.all_eq_true.1 this i (List.mem_range.2 hi')
          simp only [ho, Bool.or_eq_true, Bool.not_eq_true', List.all_eq_true, List.mem_range] at this
          rcases this with h1 | h1
          · right; rw [h1]; rfl
          · have := h1 k hlt
            simp only [hk.1, Bool.or_eq_true, Bool.not_eq_true'] at this
            rcases this with h2 | h2
            · left; rw [h2]; rfl
            · exact (nre h2).elim
        · left
          rw [Bool.not_eq_true] at hb
          rw [hb, Bool.and_false]
      obtain ⟨F', h1, h2⟩ := ahead (q := (i, o)) hlo (hds o (Array.mem_of_getElem? ho)) pre hpre hr
      have hnd : ∀ p ∈ pre ++ post, p.1 ≠ i := by
        intro p hp
        have hs := List.pairwise_append.1 hsort
        rcases List.mem_append.1 hp with hp | hp
        · have := hs.2.2 p hp (i, o) (by simp)
          simp at this
          omega
        · have := (List.pairwise_cons.1 hs.2.1).1 p hp
          simp at this
          omega
      have hlt : i < ops.size := (Array.getElem?_eq_some_iff.1 ho).1
      -- what holds behind it
      have next : ∀ {Z' : Nat → Prop} {G' : Gh} {a' : Act} {w' : World}, Inv E0 w0 Z' G' F' a' w' → (∀ m, Z' m → Z m ∨ Z1 (c + 64 * i) m) → wpAnyIn (Fx ro) n cfg.P .any ops Q fuel (listed.setIfInBounds i true) a' w' := by
        intro Z' G' a' w' h' hZ'
        refine ih (pre ++ post) (by simp at hlen ⊢; omega) (listed.setIfInBounds i true) (by simpa using hsz) (fun k y => ?_) ?_ ?_ h' (fun m hm => ?_) (fun p hp m hm hm' => ?_) h2
        · constructor
          · intro hk
            have hne : k ≠ i := hnd (k, y) hk
            have := (hpd k y).1 (by simp at hk ⊢; exact hk.imp id .inr)
            exact ⟨this.1, by rw [getD_set_ne true (Ne.symm hne)]; exact this.2⟩
          · rintro ⟨k1, k2⟩
            have hne : k ≠ i := by
              rintro rfl
              have : k < listed.size := by omega
              rw [Array.getD_eq_getD_getElem?, Array.getElem?_setIfInBounds_self_of_lt this] at k2
              simp at k2
            rw [getD_set_ne true (Ne.symm hne)] at k2
            have := (hpd k y).2 ⟨k1, k2⟩
            simp at this ⊢
            rcases this with h | ⟨h, _⟩ | h
            · exact .inl h
            · exact absurd h hne
            · exact .inr h
        · exact List.Pairwise.sublist (by simp) hsort
        · intro j y hy hl e he hb
          by_cases hji : j = i
          · subst hji
            rw [ho] at hy
            cases hy
            exact getD_set_true (hall e he hb)
          · rw [getD_set_ne false (Ne.symm hji)] at hl
            exact getD_set_true (hcl j y hy hl e he hb)
        · rcases hZ' m hm with hm | hm
          · exact hz m hm
          · simp only [Z1] at hm; omega
        · rcases hZ' m hm' with hm' | hm'
          · exact hfr p (by simp at hp ⊢; exact hp.imp id .inr) m hm hm'
          · have := hnd p hp
            simp only [Z1] at hm hm'
            omega
      unfold wpOpIn
      simp only [ho]
      unfold stepO at h1
      obtain ⟨b, hg, h1⟩ := Option.bind_eq_some_iff.1 h1
      have hw := guard_wanted h hg
      rw [hw]
      cases b with
      | true =>
        simp only [if_true] at h1 ⊢
        exact op_sound hs h (hfr (i, o) (by simp)) h1 (dstOk_iff (hdst o (Array.mem_of_getElem? ho))) fun G' a' w' h' => next h' fun m hm => hm
      | false =>
        simp only [Bool.false_eq_true, if_false] at h1 ⊢
        exact ⟨fun f _ => wide_fn f, next (inv_und h h1) fun m hm => .inl hm⟩

theorem region_sound {ro : Option Nat} {cfg : Cfg} {K : KF} (hs : Sound cfg K) (hmix : cfg.P.follows .mixedOrders = true) {id : Nat} {ops : Array Oper} {draw : Bool} {n : Nat} {Q : Exit → Act → World → Prop} {Z : Nat → Prop} {G : Gh} {F F' : St} {a : Act} {w : World} {x : X}
    (h : Inv E0 w0 Z G F a w) (hz : ∀ m, Z m → m < F.c) (hok : codeOk (.region id ops draw) = true) (hr : regionRun cfg K ops draw F = some (x, F')) (hn : ∀ G' a' w', x = .normal → Inv E0 w0 (fun m => m < F'.c) G' F' a' w' → Q .normal a' w') :
    (Code.region id ops draw).wpIn (Fx ro) n cfg.P Q a w := by
  simp only [regionRun, Option.map_eq_some_iff] at hr
  obtain ⟨F1, hr, he⟩ := hr
  cases he
  simp only [codeOk, Bool.and_eq_true, List.all_eq_true] at hok
  have hdst : ∀ o ∈ ops, dstOk o := fun o ho => by
    have := hok.1 o (by simpa using ho)
    simpa [dstOk] using this
  have fin : ∀ G' a' w', Inv E0 w0 (fun m => m < F.c + 64 * ops.size) G' F1 a' w' → Q .normal a' w' := fun G' a' w' h' => by
    refine hn G' a' w' rfl ?_
    exact ⟨h'.nsz, h'.df, h'.slot, h'.cl, h'.ids, h'.mem, h'.bel, h'.rel, h'.box, h'.row, h'.obj, h'.zB, h'.zal, h'.live, h'.pro, h'.bm⟩
  cases draw with
  | false =>
    refine wpIn_region_list ?_
    exact ops_sound hs ops.toList F.c h hz (by simpa [dsOf] using hr) (fun o ho => hdst o (by simpa using ho)) (fun G' a' w' h' => fin G' a' w' (h'.zmono fun m hm => by simpa using hm))
  | true =>
    refine wpIn_region_any hmix ?_
    have hok2 : drawOk ops = true ∧ ∀ o ∈ ops.toList, (o.dst != some SP) = true := by
      have := hok.2
      simp only [Bool.not_true, Bool.false_or, Bool.and_eq_true, List.all_eq_true] at this
      exact this
    have hdraw : drawOk ops = true := hok2.1
    have hsp : ∀ o ∈ ops, o.dst ≠ some SP := fun o ho => by
      have := hok2.2 o (by simpa using ho)
      simpa using this
    have hhv : blind (dsOf cfg ops true) = true → heavyOk cfg ops = true := by
      intro hb
      unfold dsOf at hb
      rw [if_pos rfl] at hb
      split at hb
      · rename_i h
        rw [Bool.and_eq_true] at h
        exact h.2
      · exfalso
        unfold blind at hb
        simp only [List.contains_eq_mem, decide_eq_true_eq, List.mem_append, List.mem_filterMap] at hb
        rcases hb with hb | hb
        rotate_left
        · exact loose_SP ops hb
        obtain ⟨o, ho, he⟩ := hb
        have hs' := hsp o (by simpa using ho)
        exact hs' he
    have hlo : ∀ e, (loose ops).contains e = true → (dsOf cfg ops true).contains e = true := by
      intro e he
      simp only [List.contains_eq_mem, decide_eq_true_eq] at he ⊢
      unfold dsOf
      rw [if_pos rfl]
      split
      · exact List.mem_cons_of_mem _ (List.mem_append_right _ he)
      · exact List.mem_append_right _ he
    have e := opsRun_runL (cfg := cfg) (K := K) (ops := ops) (ds := dsOf cfg ops true) (c := F.c) ops.toList 0 F
    rw [show F.c + 64 * 0 = F.c from rfl, hr] at e
    have hlen : ((List.range' 0 ops.toList.length).zip ops.toList).length = ops.size := by simp
    rw [← hlen]
    have hget : ∀ (i : Nat) (o : Oper), (i, o) ∈ (List.range' 0 ops.toList.length).zip ops.toList ↔ ops[i]? = some o := by
      intro i o
      constructor
      · intro hm
        obtain ⟨k, hk⟩ := List.getElem?_of_mem hm
        rw [List.getElem?_zip_eq_some] at hk
        obtain ⟨k1, k2⟩ := hk
        rw [List.getElem?_range'] at k1
        · simp at k1; subst k1; simpa using k2
        · have := (List.getElem?_eq_some_iff.1 k2).1
          simpa using this
      · intro ho
        have hlt : i < ops.size := (Array.getElem?_eq_some_iff.1 ho).1
        refine List.mem_of_getElem? (i := i) ?_
        rw [List.getElem?_zip_eq_some]
        refine ⟨?_, by simpa using ho⟩
        rw [List.getElem?_range' (by simpa using hlt)]
        simp
    refine any_sound hs hdraw (ds := dsOf cfg ops true) hhv hlo (fun o ho e he => ?_) hdst fin _ _ (by simp) (fun i o => ?_) ?_ ?_ (inv_drawn h _) (fun m hm => ?_) (fun p hp m hm hm' => ?_) e.symm
    · have hm : e ∈ ops.toList.filterMap (·.dst) := List.mem_filterMap.2 ⟨o, by simpa using ho, he⟩
      simp only [List.contains_eq_mem, decide_eq_true_eq]
      unfold dsOf
      rw [if_pos rfl]
      split
      · exact List.mem_cons_of_mem _ (List.mem_append_left _ hm)
      · exact List.mem_append_left _ hm
    · rw [hget]
      constructor
      · intro ho
        have hlt : i < ops.size := (Array.getElem?_eq_some_iff.1 ho).1
        exact ⟨ho, by simp [hlt]⟩
      · exact fun h => h.1
    · rw [List.pairwise_iff_getElem]
      intro i j hi hj hij
      simp only [List.getElem_zip, List.getElem_range']
      omega
    · intro j o _ hl
      rw [Array.getD_eq_getD_getElem?, Array.getElem?_replicate] at hl
      split at hl <;> simp at hl
    · have := hz m hm; omega
    · have := hz m hm'
      simp only [Z1] at hm
      omega
end
end Go.Proofs.V
