/- A range over a function, in a frame of the evaluator. -/
import Derived.Test.YtnjfjjmlonalhaaDoorK16
import Derived.Test.YtnjfjjmlonalhaaDoorK17
import Derived.Test.YtnjfjjmlonalhaaDoorK15
namespace Go.Proofs.V
open Go Go.RowKit
set_option linter.unusedVariables false
set_option linter.unusedSimpArgs false
/-- Walked code, out of what the evaluator comes to. -/
theorem aw_wp {cfg : Cfg} (hmix : cfg.P.follows .mixedOrders = true) (hx : ∀ g s as r, cfg.ext g = some s → s as = some r → CSound cfg.P g as [] r []) {c : Code} {F : St} {Q : X → St → Prop} (h : Aw cfg c F Q)
    {E0 : Nat → Prop} {w0 : Ent} {G : Gh} {a : Act} {w : World} {n : Nat} {ro : Option Nat} {Q' : Exit → Act → World → Prop} (hns : ro = none ∨ noScope c = true) (hi : Inv E0 w0 (fun m => m < F.c) G F a w) (hc : codeOk c = true)
    (hQ : ∀ x F' G' a' w', Q x F' → Inv E0 w0 (fun m => m < F'.c) G' F' a' w' → Q' x.exit' a' w') : c.wpIn (Fx ro) n cfg.P Q' a w := by
  obtain ⟨x, F', e, q⟩ := h
  obtain ⟨m, e⟩ := evC_some.1 e
  exact (evN_sound hmix hx m).1 c hns hi hc e fun G' a' w' h' => hQ x F' G' a' w' q h'

section
variable {E0 : Nat → Prop} {w0 : Ent} {Z : Nat → Prop} {G : Gh} {F : St} {a : Act} {w : World}
theorem Inv.noE (h : Inv E0 w0 Z G F a w) (hH : F.H = []) : G.E = noE := by
  funext l
  cases hl : G.E l with
  | none => rfl
  | some b => have := h.rel.2.2.2.2 l b hl; rw [hH] at this; simp at this
open Classical in
/-- Without the heap's objects. -/
noncomputable def Gh.sansH (G : Gh) : Gh := { G with E := V.noE, u := fun b => if ∃ l, G.E l = some b then none else G.u b }
/-- Nothing of the heap's objects is in it. -/
def NoHp (x : AV) : Prop := ∀ (S : Addr → Option Value) (E E' : Nat → Option Nat) (v : Value), R1 S E x v → R1 S E' x v
def NoHpB : AV → Prop
  | .box _ cs => ∀ x ∈ cs, NoHp x
  | .fp .. => True
  | x => NoHp x
/-- The closure, without its cells. -/
def clo (gf : Nat) : AV := .fn (.func gf) [] [.ref [] 0, .ref [] 0]
/-- A frame without the heap's objects. -/
def St.sansH (F : St) (tg gf : Nat) : St := { F with t := fun i => if i < F.n then upd F.t tg (clo gf) i else und, H := [] }
theorem noId_clo (gf : Nat) : NoId (clo gf) := by rintro n ⟨y, hy, rows, nl, rfl⟩; simp [clo, parts] at hy
theorem Inv.sansH (h : Inv E0 w0 Z G F a w) (hEm : ∀ l, w0.Em l = none) {tg gf b0 b1 : Nat} (hv : a.tmps.getD tg Go.undef = .func (.func gf) #[] #[.pointer (some ⟨b0, 0, none⟩), .pointer (some ⟨b1, 0, none⟩)]) (hk : ∀ i, i < F.n → i ≠ tg → NoHpB (F.t i)) : Inv E0 w0 Z G.sansH (F.sansH tg gf) a w := by
  have hu : ∀ {b : Nat} {tg : Tg}, G.u b = some tg → (∀ l, tg ≠ .obj l) → G.sansH.u b = some tg := by
    intro b tg hq hne
    simp only [Gh.sansH]
    rw [if_neg]
    · exact hq
    · rintro ⟨l, hl⟩
      have := (h.objE hl).2.1
      rw [hq] at this
      exact hne l (Option.some.inj this)
  have hR1 : ∀ {x : AV} {v : Value}, NoHp x → R1 G.S G.E x v → R1 G.S V.noE x v := fun hn hr => hn _ _ _ _ hr
  have noU : NoId und := by rintro n ⟨y, hy, rows, nl, rfl⟩; simp [und, parts] at hy
  exact {
    nsz := h.nsz
    df := h.df
    slot := fun i => by
      simp only [St.sansH, upd_apply]
      split
      rotate_left
      · rename_i hlt
        rw [Array.getD_eq_getD_getElem?, Array.getElem?_eq_none (by rw [h.nsz]; omega)]
        exact R1.tup [] [] rfl fun j x v hx => by simp at hx
      rename_i hlt
      split
      · rename_i e; subst e
        rw [hv]
        refine R1.fn (.func gf) [] [.ref [] 0, .ref [] 0] [] [.pointer (some ⟨b0, 0, none⟩), .pointer (some ⟨b1, 0, none⟩)] rfl rfl (fun j x v hx => by simp at hx) (fun j x v hx hv => ?_)
        match j, hx, hv with
        | 0, hx, hv => cases hx; cases hv; exact R1.ref [] 0 b0 0 (fun _ => Go.undef) (fun x hx => by simp at hx) (fun j x hx => by simp at hx) (fun j x hx => by simp at hx)
        | 1, hx, hv => cases hx; cases hv; exact R1.ref [] 0 b1 0 (fun _ => Go.undef) (fun x hx => by simp at hx) (fun j x hx => by simp at hx) (fun j x hx => by simp at hx)
        | j + 2, hx, hv => simp at hx
      · rename_i hne
        have hs := h.slot i
        have hn := hk i hlt hne
        revert hs hn
        generalize F.t i = x
        generalize a.tmps.getD i Go.undef = v
        intro hs hn
        cases x with
        | fp p q r => exact hs
        | box p q => exact hs
        | _ => exact hR1 hn hs
    cl := fun i hb => by
      simp only [St.sansH, upd_apply] at hb ⊢
      split
      rotate_left
      · exact Cl_of_noId noU
      rename_i hlt
      rw [if_pos hlt] at hb
      split
      · exact Cl_of_noId (noId_clo gf)
      · rename_i hne
        rw [if_neg hne] at hb
        exact fun j y u hy hu' => h.cl i hb j y u hy hu'
    ids := fun i n hi => by
      simp only [St.sansH, upd_apply] at hi
      split at hi
      rotate_left
      · exact (noU n hi).elim
      split at hi
      · exact (noId_clo gf n hi).elim
      · exact h.ids i n hi
    mem := h.mem
    bel := h.bel
    rel := ⟨h.rel.1, h.rel.2.1, fun l b hb => (by rw [hEm] at hb; cases hb), fun l b _ hb => (by cases hb), fun l b hb => (by cases hb)⟩
    box := fun i g cs hi => by
      simp only [St.sansH, upd_apply] at hi
      split at hi
      rotate_left
      · cases hi
      rename_i hlt
      split at hi
      · cases hi
      · rename_i hne
        obtain ⟨b, vs, h1, h2, h3, ⟨h4, h5, h6, h7, h8⟩, h9⟩ := h.box i g cs hi
        have hn := hk i hlt hne
        rw [hi] at hn
        exact ⟨b, vs, h1, h2, hu h3 (by intro l e; cases e), ⟨h4, h5, h6, fun j x v hx hv => hR1 (hn x (List.mem_of_getElem? hx)) (h7 j x v hx hv), h8⟩, h9⟩
    row := fun n hn => by
      obtain ⟨h1, h2, h3, h4, h5⟩ := h.row n hn
      exact ⟨h1, hu h2 (by intro l e; cases e), h3, h4, h5⟩
    obj := fun l cs hl => by simp [St.sansH] at hl
    zB := h.zB
    zal := h.zal
    live := fun b hb => by
      simp only [Gh.sansH] at hb
      split at hb
      · cases hb
      · exact h.live b hb
    pro := fun b o hb => by
      obtain ⟨p1, p2, p3⟩ := h.pro b o hb
      refine ⟨p1, ?_, p3⟩
      simp only [Gh.sansH]
      split
      · rfl
      · exact p2
    bm := h.bm }
end
/-- An iterator over two captured cells hands over xs, one behind the other. -/
def IterOk (P : Program) (gf : Nat) (cs0 cs1 : List AV) (xs : List (AV × AV)) : Prop :=
  ∀ (l b0 b1 : Nat) (vs0 vs1 : Array Value) (J : Nat → (Addr → Option Value) → World → Prop) (Jx : World → Prop) (w : World) (S : Addr → Option Value) (φ : Nat → Rw), b0 ≠ b1 → J 0 S w →
    Holds1 ⟨S, fun _ => none, noE, fun _ => none, φ⟩ w b0 cs0 vs0 → Holds1 ⟨S, fun _ => none, noE, fun _ => none, φ⟩ w b1 cs1 vs1 →
    (∀ k S w, J k S w → Mem S w) →
    (∀ k S w S' w', J k S w → Bel (fun b => b = b0 ∨ b = b1) w w' → (∀ ad v, S ad = some v → S' ad = some v) → (∀ ad : Addr, S ad = none → ad.block < w.heap.size → S' ad = none) → Mem S' w' → J k S' w') →
    (∀ k e1 e2 v1 v2 S w n, xs[k]? = some (e1, e2) → J k S w → R1 S noE e1 v1 → R1 S noE e2 v2 → NoId e1 → NoId e2 →
      ∃ fn tmps assign body, (Instr.yield l #[v1, v2]).run P w = .ok (.round l fn tmps assign body) w ∧ RoundIn Fence.wide n P l fn tmps assign body w fun e w' =>
        (e = .returned (.bool true) ∧ ∃ S', J (k + 1) S' w' ∧ (∀ ad v, S ad = some v → S' ad = some v) ∧ ∀ b, b = b0 ∨ b = b1 → w'.heap[b]? = w.heap[b]? ∧ ((∀ ad : Addr, ad.block = b → S ad = none) → ∀ ad : Addr, ad.block = b → S' ad = none)) ∨
        (e = .returned (.bool false) ∧ Jx w')) →
    ∀ n, CallsIn Fence.wide n P gf #[.func (.yield l) #[] #[], .pointer (some ⟨b0, 0, none⟩), .pointer (some ⟨b1, 0, none⟩)] w fun e w' => (∃ v, e = .returned v) ∧ ((∃ S', J xs.length S' w') ∨ Jx w')

def X.code : X → Code
  | .normal => .skip
  | .exit i => .exit i
  | .goto l => .goto l
  | .ret => .ret
/-- The frame's beginning, with the block for deferred calls beside it. -/
def Ent.with (w0 : Ent) (D : Nat) (dfr : List Deferred) : Ent := { w0 with pro := fun b => if b = D then some (.deferred (some []), true) else none, dfr := { target := .collected D, args := #[] } :: dfr }
def St.pars (F : St) (p1 p2 : Nat) (e1 e2 : AV) : St := { F with t := upd (upd F.t p1 e1) p2 e2 }
theorem bel_put {C : Nat → Prop} {w : World} {l : Nat} {o : Obj} (hl : C l) : Bel C w (w.putObj l o) := ⟨rfl, rfl, rfl, by simp, fun k _ hk => World.putObj_heap_other (by rintro rfl; exact hk hl)⟩
theorem mem_put {S : Addr → Option Value} {w : World} {l : Nat} {o : Obj} (hm : Mem S w) (hl : ∀ ad : Addr, ad.block = l → S ad = none) : Mem S (w.putObj l o) := by
  intro ad v hv
  rw [World.cell?_of_block (w := w) (World.putObj_heap_other (by intro e; rw [hl ad e] at hv; cases hv))]
  exact hm ad v hv
theorem mem_other {S : Addr → Option Value} {w : World} {l : Nat} {o : Obj} (hm : Mem S w) (hl : w.heap[l]? = some o) (ho : o.isCells = false) : ∀ ad : Addr, ad.block = l → S ad = none := by
  intro ad ha
  cases hS : S ad with
  | none => rfl
  | some v =>
    obtain ⟨o', h1, h2⟩ := cells_of_cell (hm ad v hS)
    rw [ha, hl] at h1
    cases h1
    rw [ho] at h2
    cases h2
end Go.Proofs.V
namespace Go.Proofs.V
open Go Go.RowKit
set_option linter.unusedVariables false
set_option linter.unusedSimpArgs false
theorem zip2 {α β : Type} (p1 p2 : α) (v1 v2 : β) : (#[p1, p2].zip #[v1, v2]) = #[(p1, v1), (p2, v2)] := by
  apply Array.ext'
  simp [Array.toList_zip]
open Classical in
theorem range_sound {cfg : Cfg} (hmix : cfg.P.follows .mixedOrders = true) (hx : ∀ g s as r, cfg.ext g = some s → s as = some r → CSound cfg.P g as [] r [])
    {E0 : Nat → Prop} {w0 : Ent} {G : Gh} {F0 : St} {a : Act} {w : World} {tg : Nat} {ps : Array Tmp} {assign body : Code} {gf p1 p2 : Nat} {cs0 cs1 : List AV} {xs : List (AV × AV)} {n : Nat} {Q : Exit → Act → World → Prop}
    (h : Inv E0 w0 (fun m => m < F0.c) G F0 a w) (htg : tg < F0.n) (hg : F0.ev (.tmp tg) = .fn (.func gf) [] [.hp 0 0, .hp 1 0]) (hH : F0.H = [cs0, cs1]) (hn0 : ∀ x ∈ cs0, NoHp x) (hn1 : ∀ x ∈ cs1, NoHp x) (hEm : ∀ l, w0.Em l = none) (hpr : ∀ b, w0.pro b = none)
    (hgf : ∀ args w, (callFunc gf args).run cfg.P w = .ok (.enter gf args) w) (hit : IterOk cfg.P gf cs0 cs1 xs)
    (hps : ps = #[p1, p2]) (hp1 : p1 < F0.n) (hp2 : p2 < F0.n) (hA : noScope assign = true) (hB : noScope body = true) (hAo : codeOk assign = true) (hBo : codeOk body = true)
    (hk : ∀ i, i < F0.n → i ≠ tg → NoHpB (F0.t i)) (I : Nat → St → Prop) (Ix : X → St → Prop)
    (h0 : I 0 (F0.sansH tg gf)) (hIn : ∀ k F, I k F → F.n = F0.n)
    (hround : ∀ k F e1 e2, I k F → xs[k]? = some (e1, e2) → Aw cfg assign (F.pars p1 p2 e1 e2) fun x F1 => x = .normal ∧ Aw cfg body F1 fun x F2 => F2.H = [] ∧ match x with
      | .normal => I (k + 1) (F.back F2)
      | x => Ix x (F.back F2))
    (hdone : ∀ D F G' w', w0.heap.size ≤ D → I xs.length F → Inv E0 (w0.with D w0.dfr) (fun m => m < F.c) G' F { tmps := a.tmps, defers := { target := .collected D, args := #[] } :: w0.dfr } w' → Q .normal { tmps := a.tmps, defers := { target := .collected D, args := #[] } :: w0.dfr } w')
    (hstop : ∀ D x F G' w', w0.heap.size ≤ D → x ≠ .normal → Ix x F → Inv E0 (w0.with D w0.dfr) (fun m => m < F.c) G' F { tmps := a.tmps, defers := { target := .collected D, args := #[] } :: w0.dfr } w' → Q x.exit' { tmps := a.tmps, defers := { target := .collected D, args := #[] } :: w0.dfr } w') :
    (Code.rangeFunc (.tmp tg) ps assign body).wpIn (Fx none) n cfg.P Q a w := by
  -- the function that is ranged over, and its two cells
  have hgv := (opd h (.tmp tg)).rv
  rw [hg] at hgv
  have hgv : R1 G.S G.E (.fn (.func gf) [] [.hp 0 0, .hp 1 0]) (a.eval (.tmp tg)) := hgv
  obtain ⟨b0, b1, hval, hE0', hE1'⟩ : ∃ b0 b1, a.eval (.tmp tg) = .func (.func gf) #[] #[.pointer (some ⟨b0, 0, none⟩), .pointer (some ⟨b1, 0, none⟩)] ∧ G.E 0 = some b0 ∧ G.E 1 = some b1 := by
    generalize a.eval (.tmp tg) = v at hgv
    cases hgv with
    | fn _ _ _ fs cs hf hc h1 h2 =>
      rcases fs with _ | ⟨_, _⟩
      · rcases cs with _ | ⟨c0, _ | ⟨c1, _ | ⟨_, _⟩⟩⟩ <;> simp at hc
        have q0 := h2 0 _ c0 rfl rfl
        have q1 := h2 1 _ c1 rfl rfl
        cases q0 with
        | hp _ _ b0 e0 =>
          cases q1 with
          | hp _ _ b1 e1 => exact ⟨b0, b1, rfl, e0, e1⟩
      · simp at hf
  obtain ⟨vs0, hH0, hne⟩ : ∃ vs0, Holds1 G w b0 cs0 vs0 ∧ b0 ≠ b1 := by
    obtain ⟨b, vs, e1, _, e2, e3⟩ := h.obj 0 cs0 (by rw [hH]; rfl)
    rw [hE0'] at e1
    cases e1
    refine ⟨vs, e3, ?_⟩
    rintro rfl
    have := (h.objE hE1').2.1
    rw [e2] at this
    cases this
  obtain ⟨vs1, hH1⟩ : ∃ vs1, Holds1 G w b1 cs1 vs1 := by
    obtain ⟨b, vs, e1, _, e2, e3⟩ := h.obj 1 cs1 (by rw [hH]; rfl)
    rw [hE1'] at e1
    cases e1
    exact ⟨vs, e3⟩
  have hb0w : w0.heap.size ≤ b0 := h.rel.2.2.2.1 0 b0 (hEm 0) hE0'
  have hb1w : w0.heap.size ≤ b1 := h.rel.2.2.2.1 1 b1 (hEm 1) hE1'
  have hb0l : b0 < w.heap.size := (h.objE hE0').2.2
  have hb1l : b1 < w.heap.size := (h.objE hE1').2.2
  have hs := h.sansH hEm (show a.tmps.getD tg Go.undef = _ from hval) hk
  -- the record
  refine wpIn_rangeFunc fun fn hfn => ?_
  obtain ⟨rec, hrec⟩ : ∃ rec : LoopState → Option Code → Loop, rec = fun st pe => { state := st, pending := pe, fn, tmps := a.tmps, params := ps, assign, body, defers := w.heap.size } := ⟨_, rfl⟩
  obtain ⟨W1, hW1⟩ : ∃ W1, (w.alloc (.deferred (some []))).alloc (.loop (rec .ready none)) = W1 := ⟨_, rfl⟩
  obtain ⟨D, hD⟩ : ∃ D, w.heap.size = D := ⟨_, rfl⟩
  obtain ⟨l, hl⟩ : ∃ l, w.heap.size + 1 = l := ⟨_, rfl⟩
  have hlD : l ≠ D := by omega
  have hL1 : W1.heap[l]? = some (.loop (rec .ready none)) := by
    rw [← hW1, ← hl]; have := World.alloc_heap_new (w.alloc (.deferred (some []))) (.loop (rec .ready none)); rwa [World.size_alloc] at this
  have hK1 : W1.heap[D]? = some (.deferred (some [])) := by
    rw [← hW1, ← hD]; exact (Below.heap_alloc _ _ _ (by simp)).trans (World.alloc_heap_new w _)
  have hold : ∀ b, b < w.heap.size → W1.heap[b]? = w.heap[b]? := fun b hb => by
    rw [← hW1]; exact (Below.heap_alloc _ _ _ (by simp; omega)).trans (Below.heap_alloc _ _ _ hb)
  have hbel1 : Bel (fun _ => False) w W1 := by
    refine ⟨by rw [← hW1]; rfl, by rw [← hW1]; rfl, by rw [← hW1]; rfl, by rw [← hW1]; simp only [World.size_alloc]; omega, fun k hk _ => hold k hk⟩
  have hdead : ∀ b, w.heap.size ≤ b → G.sansH.u b = none := by
    intro b hb
    cases hu : G.sansH.u b with
    | none => rfl
    | some tg => have := hs.live b (by rw [hu]; rfl); omega
  have hmem1 : Mem G.S W1 := fun ad v hv => by
    have := h.mem.lt hv
    rw [World.cell?_of_block (w := w) (hold _ this)]
    exact h.mem ad v hv
  have hSD : ∀ ad : Addr, ad.block = D → G.S ad = none := mem_other hmem1 hK1 rfl
  let aA : Act := { tmps := a.tmps, defers := { target := .collected D, args := #[] } :: w0.dfr }
  have hs1 : Inv E0 (w0.with D w0.dfr) (fun m => m < F0.c) G.sansH (F0.sansH tg gf) aA W1 := by
    refine hs.turn (pro := (w0.with D w0.dfr).pro) (a' := aA) hbel1 (fun b hb => hb.elim) (fun b hb => hb.elim) (fun _ _ h => h) (fun _ h _ => h) hmem1 ?_ rfl
    intro b o hb
    simp only [Ent.with] at hb
    split at hb
    · rename_i e
      subst e
      cases hb
      exact ⟨hK1, hdead b (by omega), fun _ => hSD⟩
    · cases hb
  let J : Nat → (Addr → Option Value) → World → Prop := fun k S W => ∃ G F, Inv E0 (w0.with D w0.dfr) (fun m => m < F.c) G F aA W ∧ I k F ∧ G.S = S ∧ G.E = noE ∧ W.heap[l]? = some (.loop (rec .ready none)) ∧ G.u l = none ∧ G.u b0 = none ∧ G.u b1 = none
  let Jx : World → Prop := fun W => ∃ x G F, x ≠ X.normal ∧ Ix x F ∧ Inv E0 (w0.with D w0.dfr) (fun m => m < F.c) G F aA W ∧ W.heap[l]? = some (.loop (rec .done (some x.code))) ∧ G.u l = none
  have hDw : w0.heap.size ≤ D := by have := h.bel.size; omega
  have hlw : w0.heap.size ≤ l := by have := h.bel.size; omega
  have hb0D : b0 ≠ D := by omega
  have hb1D : b1 ≠ D := by omega
  have hb0lne : b0 ≠ l := by omega
  have hb1lne : b1 ≠ l := by omega
  have hsub : ∀ b, (b = b0 ∨ b = b1) → G.sansH.u b = none := by
    intro b hb
    simp only [Gh.sansH]
    rw [if_pos]
    rcases hb with rfl | rfl
    · exact ⟨0, hE0'⟩
    · exact ⟨1, hE1'⟩
  have hJ0 : J 0 G.S W1 := ⟨G.sansH, F0.sansH tg gf, hs1, h0, rfl, rfl, hL1, hdead l (by omega), hsub b0 (.inl rfl), hsub b1 (.inr rfl)⟩
  have hHold : ∀ {b : Nat} {cs : List AV} {vs : Array Value}, b < w.heap.size → (∀ x ∈ cs, NoHp x) → Holds1 G w b cs vs → Holds1 ⟨G.S, fun _ => none, noE, fun _ => none, G.ρ⟩ W1 b cs vs := by
    rintro b cs vs hb hn ⟨⟨ty, q1⟩, q2, q3, q4, q5⟩
    exact ⟨⟨ty, (hold b hb).trans q1⟩, q2, q3, fun j x v hx hv => hn x (List.mem_of_getElem? hx) _ _ _ _ (q4 j x v hx hv), q5⟩
  -- what a turn of the record does
  have hturn : ∀ {W : World} {G : Gh} {F : St} {o : Obj} (o' : Obj), Inv E0 (w0.with D w0.dfr) (fun m => m < F.c) G F aA W → W.heap[l]? = some o → o.isCells = false → G.u l = none → Inv E0 (w0.with D w0.dfr) (fun m => m < F.c) G F aA (W.putObj l o') := by
    intro W G F o o' hi hlo ho hul
    have hS := mem_other hi.mem hlo ho
    refine hi.turn (C := fun b => b = l) (pro := (w0.with D w0.dfr).pro) (a' := aA) (bel_put rfl) (fun b hb => by rw [hb]; exact hul) (fun b hb hlt => ?_) (fun _ _ h => h) (fun _ h _ => h) (mem_put hi.mem hS) (fun b o2 hb => ?_) rfl
    · have hlt : b < w0.heap.size := hlt
      omega
    · have hb' := hb
      simp only [Ent.with] at hb'
      split at hb'
      · rename_i e
        obtain ⟨q1, q2, q3⟩ := hi.pro b o2 hb
        exact ⟨(World.putObj_heap_other (by omega)).trans q1, q2, q3⟩
      · cases hb'
  refine ⟨l, [{ target := .collected D, args := #[] }], W1, { target := .fn (.func gf) #[.pointer (some ⟨b0, 0, none⟩), .pointer (some ⟨b1, 0, none⟩)], args := #[.func (.yield l) #[] #[]] }, W1, gf,
    #[.func (.yield l) #[] #[]] ++ #[.pointer (some ⟨b0, 0, none⟩), .pointer (some ⟨b1, 0, none⟩)], W1, ?_, ?_, ?_, ?_, fun hd => (by cases hd), ?_⟩
  · show (Instr.enterLoop fn a.tmps ps assign body none).run cfg.P w = _
    rw [← hW1, hrec, ← hD, ← hl]; exact run_enterLoop_outer _ _ _ _ _
  · simp only [resolve, hval]
    simp [go_sem]
  · intro f' hf'; trivial
  · simp [invoke, go_sem, hgf]
  · have hda : a.defers = w0.dfr := h.df
    have hact : ({ a with defers := [{ target := .collected D, args := #[] }] ++ a.defers } : Act) = aA := by
      simp only [aA, hda]; rfl
    rw [hact]
    refine (hit l b0 b1 vs0 vs1 J Jx W1 G.S G.ρ hne hJ0 (hHold hb0l hn0 hH0) (hHold hb1l hn1 hH1) ?_ ?_ ?_ (n - 1)).mono ?_
    · rintro k S W ⟨G', F, hi, _, rfl, _⟩
      exact hi.mem
    · rintro k S W S' W' ⟨G', F, hi, hIk, rfl, hGE, hlo, hul, hu0, hu1⟩ hb sS sN hm
      have hD' := hi.pro D (.deferred (some []), true) (by simp [Ent.with])
      refine ⟨{ G' with S := S' }, F, ?_, hIk, rfl, hGE, ?_, hul, hu0, hu1⟩
      · refine hi.turn (pro := (w0.with D w0.dfr).pro) (a' := aA) hb (fun b hb => ?_) (fun b hb hlt => ?_) sS sN hm (fun b o hb' => ?_) rfl
        · rcases hb with rfl | rfl <;> assumption
        · have hlt : b < w0.heap.size := hlt
          omega
        · have hb2 := hb'
          simp only [Ent.with] at hb2
          split at hb2
          · rename_i e
            obtain ⟨q1, q2, q3⟩ := hi.pro b o hb'
            have hlt := (Array.getElem?_eq_some_iff.1 q1).1
            exact ⟨(hb.block b hlt (by rintro (r | r) <;> omega)).trans q1, q2, fun hf ad ha => sN ad (q3 hf ad ha) (by rw [ha]; exact hlt)⟩
          · cases hb2
      · have hlt := (Array.getElem?_eq_some_iff.1 hlo).1
        exact (hb.block l hlt (by rintro (r | r) <;> omega)).trans hlo
    · -- one round
      rintro k e1 e2 v1 v2 S W m hxk ⟨G', F, hi, hIk, rfl, hGE, hlo, hul, hu0, hu1⟩ hr1 hr2 hi1 hi2
      have hn := hIn k F hIk
      have hy := run_yield (P := cfg.P) (args := #[v1, v2]) hlo (by rw [hrec]; simp [hps])
      rw [hrec] at hy
      refine ⟨fn, _, assign, body, hy, ?_⟩
      have hSl : ∀ ad : Addr, ad.block = l → G'.S ad = none := mem_other hi.mem hlo rfl
      have hDp := hi.pro D (.deferred (some []), true) (by simp [Ent.with])
      let pro1 : Nat → Option (Obj × Bool) := fun b => if G'.u b = none then (W.heap[b]?).map fun o => (o, decide (∀ ad : Addr, ad.block = b → G'.S ad = none)) else none
      have hpro1 : ∀ b o, pro1 b = some o → W.heap[b]? = some o.1 ∧ G'.u b = none ∧ (o.2 = true → ∀ ad : Addr, ad.block = b → G'.S ad = none) := by
        intro b o hb
        simp only [pro1] at hb
        split at hb
        · rename_i hu
          simp only [Option.map_eq_some_iff] at hb
          obtain ⟨o', q1, rfl⟩ := hb
          exact ⟨q1, hu, fun hd => of_decide_eq_true hd⟩
        · cases hb
      have hin1 : ∀ {b : Nat} {o : Obj}, W.heap[b]? = some o → G'.u b = none → pro1 b = some (o, decide (∀ ad : Addr, ad.block = b → G'.S ad = none)) := by
        intro b o q1 q2
        simp only [pro1, q2, if_true, q1, Option.map_some]
      have hreb := hi.rebase (pro := pro1) hpro1 (a' := { tmps := a.tmps, defers := [] }) rfl
      have hset : Inv E0 ((w0.with D w0.dfr).rebase G' pro1 []) (fun m => m < (F.pars p1 p2 e1 e2).c) G' (F.pars p1 p2 e1 e2) { tmps := (ps.zip #[v1, v2]).foldl (fun t (p, v) => t.setIfInBounds p v) a.tmps, defers := [] } W := by
        have q1 := hreb.set (d := p1) (x := e1) (v := v1) (by rw [hn]; exact hp1) hr1.nobox (RV_of (by rw [hGE]; exact hr1)) (Cl_of_noId hi1) (fun n hn => (hi1 n hn).elim)
        have q2 := q1.set (d := p2) (x := e2) (v := v2) (by show p2 < F.n; rw [hn]; exact hp2) hr2.nobox (RV_of (by rw [hGE]; exact hr2)) (Cl_of_noId hi2) (fun n hn => (hi2 n hn).elim)
        have he : (ps.zip #[v1, v2]).foldl (fun t (p, v) => t.setIfInBounds p v) a.tmps = (a.tmps.setIfInBounds p1 v1).setIfInBounds p2 v2 := by
          rw [hps, zip2]
          rfl
        rw [he]
        exact q2
      refine roundIn_of_wpIn hfn ?_
      show assign.wpIn (Fx (some l)) m cfg.P _ _ W
      refine aw_wp hmix hx (hround k F e1 e2 hIk hxk) (.inr hA) hset hAo ?_
      rintro x F1 G1 a1 W2 ⟨rfl, hbody⟩ hi1'
      have hlo1 := (hi1'.pro l _ (hin1 hlo hul)).1
      have hul1 := (hi1'.pro l _ (hin1 hlo hul)).2.1
      have hSl1 := (hi1'.pro l _ (hin1 hlo hul)).2.2 (decide_eq_true hSl)
      refine ⟨_, run_beginRound hlo1 (by rw [hrec]), ?_⟩
      let busy : Loop := { rec .ready none with state := .busy }
      let pro2 : Nat → Option (Obj × Bool) := fun b => if b = l then some (.loop busy, true) else pro1 b
      have hi2' : Inv E0 ((w0.with D w0.dfr).rebase G' pro2 a1.defers) (fun m => m < F1.c) G1 F1 a1 (W2.putObj l (.loop busy)) := by
        refine hi1'.turn (C := fun b => b = l) (pro := pro2) (a' := a1) (bel_put rfl) (fun b hb => by rw [hb]; exact hul1) (fun b hb hlt => ?_) (fun _ _ h => h) (fun _ h _ => h) (mem_put hi1'.mem hSl1) (fun b o hb => ?_) rfl
        · have hlt : b < w0.heap.size := hlt
          omega
        · simp only [pro2] at hb
          split at hb
          · rename_i e
            subst e
            cases hb
            exact ⟨World.putObj_heap_same (Array.getElem?_eq_some_iff.1 hlo1).1, hul1, fun _ => hSl1⟩
          · rename_i e
            obtain ⟨q1, q2, q3⟩ := hi1'.pro b o hb
            exact ⟨(World.putObj_heap_other e).trans q1, q2, q3⟩
      show body.wpIn (Fx (some l)) m cfg.P _ _ _
      refine aw_wp hmix hx hbody (.inr hB) hi2' hBo ?_
      rintro x F2 G2 a2 W3 ⟨hF2H, hpost⟩ hi3
      have hlo3 := (hi3.pro l (.loop busy, true) (by simp [pro2, Ent.rebase])).1
      have hul3 := (hi3.pro l (.loop busy, true) (by simp [pro2, Ent.rebase])).2.1
      have hk3 : ∀ {b : Nat} {o : Obj}, b ≠ l → W.heap[b]? = some o → G'.u b = none → W3.heap[b]? = some o ∧ G2.u b = none ∧ ((∀ ad : Addr, ad.block = b → G'.S ad = none) → ∀ ad : Addr, ad.block = b → G2.S ad = none) := by
        intro b o hb q1 q2
        have := hi3.pro b (o, decide (∀ ad : Addr, ad.block = b → G'.S ad = none)) (by simp only [Ent.rebase, pro2, if_neg hb]; exact hin1 q1 q2)
        exact ⟨this.1, this.2.1, fun hd => this.2.2 (decide_eq_true hd)⟩
      have hback : Inv E0 (w0.with D w0.dfr) (fun m => m < F2.c) G2 (F.back F2) aA W3 := by
        refine hi.back hi3 fun b o hb => ?_
        have hb' := hb
        simp only [Ent.with] at hb'
        split at hb'
        · rename_i e
          subst e
          cases hb'
          simp only [pro2, if_neg (Ne.symm hlD)]
          rw [hin1 hDp.1 hDp.2.1, decide_eq_true (hDp.2.2 rfl)]
        · cases hb'
      have hGE2 : G2.E = noE := hi3.noE hF2H
      obtain ⟨ob0, hob0⟩ : ∃ o, W.heap[b0]? = some o := by
        have := hi.bel.size
        refine ⟨_, Array.getElem?_eq_getElem ?_⟩
        have h2 := (Array.getElem?_eq_some_iff.1 hlo).1
        omega
      obtain ⟨ob1, hob1⟩ : ∃ o, W.heap[b1]? = some o := by
        refine ⟨_, Array.getElem?_eq_getElem ?_⟩
        have h2 := (Array.getElem?_eq_some_iff.1 hlo).1
        omega
      obtain ⟨k01, k02, k03⟩ := hk3 hb0lne hob0 hu0
      obtain ⟨k11, k12, k13⟩ := hk3 hb1lne hob1 hu1
      have hput : ∀ o', Inv E0 (w0.with D w0.dfr) (fun m => m < (F.back F2).c) G2 (F.back F2) aA (W3.putObj l o') := fun o' => hturn (F := F.back F2) o' hback hlo3 rfl hul3
      have hsS : ∀ ad v, G'.S ad = some v → G2.S ad = some v := hi3.rel.1
      cases x with
      | normal =>
        refine ⟨_, _, run_endRound none hlo3, .inl ⟨rfl, G2.S, ⟨G2, F.back F2, ?_, hpost, rfl, hGE2, ?_, hul3, k02, k12⟩, hsS, ?_⟩⟩
        · exact hput _
        · rw [World.putObj_heap_same (Array.getElem?_eq_some_iff.1 hlo3).1]
          simp [busy, hrec]
        · rintro b (rfl | rfl)
          · exact ⟨(World.putObj_heap_other hb0lne).trans (k01.trans hob0.symm), k03⟩
          · exact ⟨(World.putObj_heap_other hb1lne).trans (k11.trans hob1.symm), k13⟩
      | ret =>
        refine ⟨_, _, run_endRound (some .ret) hlo3, .inr ⟨rfl, .ret, G2, F.back F2, (by intro e; cases e), hpost, hput _, ?_, hul3⟩⟩
        rw [World.putObj_heap_same (Array.getElem?_eq_some_iff.1 hlo3).1]
        simp [busy, hrec, X.code]
      | exit id =>
        refine ⟨_, _, run_endRound (some (.exit id)) hlo3, .inr ⟨rfl, .exit id, G2, F.back F2, (by intro e; cases e), hpost, hput _, ?_, hul3⟩⟩
        rw [World.putObj_heap_same (Array.getElem?_eq_some_iff.1 hlo3).1]
        simp [busy, hrec, X.code]
      | goto t =>
        refine ⟨_, _, run_endRound (some (.goto t)) hlo3, .inr ⟨rfl, .goto t, G2, F.back F2, (by intro e; cases e), hpost, hput _, ?_, hul3⟩⟩
        rw [World.putObj_heap_same (Array.getElem?_eq_some_iff.1 hlo3).1]
        simp [busy, hrec, X.code]
    · rintro e W2 ⟨⟨v, rfl⟩, (⟨S', G', F, hi, hIk, rfl, hGE, hlo, hul, hu0, hu1⟩ | ⟨x, G', F, hxn, hIx, hi, hlo, hul⟩)⟩
      · exact ⟨none, _, by have := run_endLoop (P := cfg.P) hlo (by rw [hrec]; simp); rw [hrec] at this; exact this, hdone D F G' _ hDw hIk (hturn _ hi hlo rfl hul)⟩
      · refine ⟨some x.code, _, by have := run_endLoop (P := cfg.P) hlo (by rw [hrec]; simp); rw [hrec] at this; exact this, ?_⟩
        have hq := hstop D x F G' _ hDw hxn hIx (hturn (.loop { rec .done (some x.code) with state := .exhausted }) hi hlo rfl hul)
        have hfe : ∀ {o o' : Obj} {W : World}, o = o' → W.putObj l o = W.putObj l o' := fun e => by rw [e]
        rw [hrec] at hq
        cases x with
        | normal => exact (hxn rfl).elim
        | ret => exact wpIn_ret hq
        | exit id => exact wpIn_exit hq
        | goto t => exact wpIn_goto hq
end Go.Proofs.V
namespace Go.Proofs.V
open Go Go.RowKit
set_option linter.unusedVariables false
set_option linter.unusedSimpArgs false
/-- The iterator's frame at the head of its loop. -/
def itF (n : Nat) (m : TypeId → Bool) (l : Nat) (cs0 cs1 : List AV) (v : Nat → Value) : St :=
  { n := n, t := fun i => if i = 0 then .fn (.yield l) [] [] else if i = 1 then .box 0 cs0 else if i = 2 then .box 1 cs1 else .at (v i), c := 2, al := fun _ => false, H := [], m := m }
def itB (b0 b1 : Nat) : Nat → Option Nat := fun g => if g = 0 then some b0 else if g = 1 then some b1 else none
def itG (S : Addr → Option Value) (b0 b1 : Nat) (φ : Nat → Rw) : Gh := { S := S, B := itB b0 b1, E := noE, u := fun b => if b = b0 then some (.slot 1) else if b = b1 then some (.slot 2) else none, ρ := φ }
def itW (w : World) (S : Addr → Option Value) (b0 b1 : Nat) : Ent := { toWorld := w, S0 := S, Em := noE, Bm := itB b0 b1, Ew := fun b => b = b0 ∨ b = b1, dfr := [] }
/-- What is known at the head. -/
structure ItH (n l b0 b1 : Nat) (S : Addr → Option Value) (φ : Nat → Rw) (cs0 cs1 : List AV) (a : Act) (w : World) : Prop where
  mem : Mem S w
  n3 : 3 ≤ n
  sz : a.tmps.size = n
  df : a.defers = []
  t0 : a.tmps.getD 0 Go.undef = .func (.yield l) #[] #[]
  t1 : a.tmps.getD 1 Go.undef = .pointer (some ⟨b0, 0, none⟩)
  t2 : a.tmps.getD 2 Go.undef = .pointer (some ⟨b1, 0, none⟩)
  h0 : ∃ vs, Holds1 ⟨S, fun _ => none, noE, fun _ => none, φ⟩ w b0 cs0 vs
  h1 : ∃ vs, Holds1 ⟨S, fun _ => none, noE, fun _ => none, φ⟩ w b1 cs1 vs
  i0 : ∀ x ∈ cs0, ∀ rows nl n, x ≠ .slice rows nl (.id n)
  i1 : ∀ x ∈ cs1, ∀ rows nl n, x ≠ .slice rows nl (.id n)
theorem ItH.inv {n l b0 b1 : Nat} {S : Addr → Option Value} {φ : Nat → Rw} {cs0 cs1 : List AV} {a : Act} {w : World} (h : ItH n l b0 b1 S φ cs0 cs1 a w) (hne : b0 ≠ b1) (m : TypeId → Bool) :
    Inv (fun b => b = b0 ∨ b = b1) (itW w S b0 b1) (fun m => m < 2) (itG S b0 b1 φ) (itF n m l cs0 cs1 fun i => a.tmps.getD i Go.undef) a w := by
  obtain ⟨vs0, k0⟩ := h.h0
  obtain ⟨vs1, k1⟩ := h.h1
  have hl0 : b0 < w.heap.size := (Array.getElem?_eq_some_iff.1 k0.1.choose_spec).1
  have hl1 : b1 < w.heap.size := (Array.getElem?_eq_some_iff.1 k1.1.choose_spec).1
  have noid : ∀ i n, ¬ HasId n ((itF n m l cs0 cs1 fun i => a.tmps.getD i Go.undef).t i) := by
    rintro i n ⟨y, hy, rows, nl, rfl⟩
    simp only [itF] at hy
    split at hy
    · simp [parts] at hy
    · split at hy
      · exact h.i0 _ hy rows nl n rfl
      · split at hy
        · exact h.i1 _ hy rows nl n rfl
        · simp [parts] at hy
  exact {
    nsz := h.sz
    df := h.df
    slot := fun i => by
      simp only [itF]
      split
      · rename_i e; subst e
        rw [h.t0]
        exact R1.fn (.yield l) [] [] [] [] rfl rfl (fun j x v hx => by simp at hx) (fun j x v hx => by simp at hx)
      · split
        · rename_i e; subst e
          exact ⟨b0, by simp [itG, itB], h.t1⟩
        · split
          · rename_i e; subst e
            exact ⟨b1, by simp [itG, itB], h.t2⟩
          · exact R1.at _
    cl := fun i _ => Cl_of_noId (noid i)
    ids := fun i n hi => (noid i n hi).elim
    mem := h.mem
    bel := Bel.refl _ _
    rel := ⟨fun _ _ h => h, fun _ h _ _ => h, fun _ _ h => h, fun l b _ hb => (by cases hb), fun l b hb => (by cases hb)⟩
    box := fun i g cs hi => by
      simp only [itF] at hi
      split at hi
      · cases hi
      · split at hi
        · rename_i e
          cases hi
          exact ⟨b0, vs0, by simp [itG, itB], .inr ⟨.inl rfl, .inl rfl⟩, by simp [itG, e], k0, fun j x v _ _ rows nl n _ ha => by cases ha⟩
        · split at hi
          · rename_i e
            cases hi
            exact ⟨b1, vs1, by simp [itG, itB], .inr ⟨.inr rfl, .inr rfl⟩, by simp [itG, e, Ne.symm hne], k1, fun j x v _ _ rows nl n _ ha => by cases ha⟩
          · cases hi
    row := fun n hn => by cases hn
    obj := fun l cs hl => by simp [itF] at hl
    zB := fun g b hb => by
      simp only [itG, itB] at hb
      split at hb
      · omega
      · split at hb
        · omega
        · cases hb
    zal := fun n hn => by cases hn
    live := fun b hb => by
      simp only [itG] at hb
      split at hb
      · rename_i e; rw [e]; exact hl0
      · split at hb
        · rename_i e; rw [e]; exact hl1
        · cases hb
    pro := fun b o hb => by cases hb
    bm := fun _ _ h => h }
/-- What a stretch of the iterator leaves. -/
theorem ItH.out {n l b0 b1 : Nat} {S : Addr → Option Value} {w w' : World} {Z : Nat → Prop} {G : Gh} {F : St} {a' : Act} {cs0 cs1 : List AV} (hi : Inv (fun b => b = b0 ∨ b = b1) (itW w S b0 b1) Z G F a' w') (hn : 3 ≤ n) (hFn : F.n = n) (hH : F.H = []) (h0 : F.t 0 = .fn (.yield l) [] []) (h1 : F.t 1 = .box 0 cs0) (h2 : F.t 2 = .box 1 cs1) :
    ItH n l b0 b1 G.S G.ρ (cs0.map strip1) (cs1.map strip1) a' w' ∧ Bel (fun b => b = b0 ∨ b = b1) w w' ∧ (∀ ad v, S ad = some v → G.S ad = some v) ∧ (∀ ad : Addr, S ad = none → ad.block < w.heap.size → G.S ad = none) ∧ G.E = noE := by
  have hE := hi.noE hH
  have hold : ∀ {i g b : Nat} {cs : List AV}, F.t i = .box g cs → itB b0 b1 g = some b → a'.tmps.getD i Go.undef = .pointer (some ⟨b, 0, none⟩) ∧ (∃ vs, Holds1 ⟨G.S, fun _ => none, noE, fun _ => none, G.ρ⟩ w' b (cs.map strip1) vs) ∧ ∀ ad : Addr, ad.block = b → G.S ad = none := by
    intro i g b cs ht hb
    have hB : G.B g = some b := hi.bm g b hb
    obtain ⟨b', vs, q1, q2, q3, ⟨q4, q5, q6, q7, q8⟩, q9⟩ := hi.box i g cs ht
    rw [hB] at q1
    cases q1
    have hs := hi.slot i
    rw [ht] at hs
    obtain ⟨b', r1, r2⟩ := hs
    rw [hB] at r1
    cases r1
    refine ⟨r2, ⟨vs, q4, by simpa using q5, fun x hx => ?_, fun j x v hx hv => ?_, q8⟩, q8⟩
    · obtain ⟨y, hy, rfl⟩ := List.mem_map.1 hx
      rw [plain_strip1]; exact q6 y hy
    · rw [List.getElem?_map] at hx
      simp only [Option.map_eq_some_iff] at hx
      obtain ⟨y, hy, rfl⟩ := hx
      have := strip1_R1 (q7 j y v hy hv)
      rw [hE] at this
      exact this
  obtain ⟨x1, x2, x3⟩ := hold h1 (show itB b0 b1 0 = some b0 by simp [itB])
  obtain ⟨y1, y2, y3⟩ := hold h2 (show itB b0 b1 1 = some b1 by simp [itB])
  have hs0 := hi.slot 0
  rw [h0] at hs0
  have noid : ∀ (cs : List AV), ∀ x ∈ cs.map strip1, ∀ rows nl n, x ≠ .slice rows nl (.id n) := by
    intro cs x hx rows nl n
    obtain ⟨y, _, rfl⟩ := List.mem_map.1 hx
    exact noId_strip1 y rows nl n
  refine ⟨⟨hi.mem, hn, by rw [hi.nsz, hFn], hi.df, ?_, x1, y1, x2, y2, noid _, noid _⟩, hi.bel, hi.rel.1, fun ad hs hl => ?_, hE⟩
  · have hs0 : R1 G.S G.E (.fn (.yield l) [] []) (a'.tmps.getD 0 Go.undef) := hs0
    generalize a'.tmps.getD 0 Go.undef = v at hs0
    cases hs0 with
    | fn _ _ _ fs cs hf hc =>
      have e1 := List.eq_nil_of_length_eq_zero hf
      have e2 := List.eq_nil_of_length_eq_zero hc
      subst e1 e2
      rfl
  · by_cases he : ad.block = b0 ∨ ad.block = b1
    · rcases he with he | he
      · exact x3 ad he
      · exact y3 ad he
    · exact hi.rel.2.1 ad hs hl he
end Go.Proofs.V
namespace Go.Proofs.V
open Go Go.RowKit
set_option linter.unusedVariables false
set_option linter.unusedSimpArgs false
section
variable {E0 : Nat → Prop} {w0 : Ent}
/-- The first operations of a region. -/
theorem ops_pre {ro : Option Nat} {cfg : Cfg} {K : KF} (hs : Sound cfg K) {ops : Array Oper} {n : Nat} {Q : Exit → Act → World → Prop} (l2 : List Oper) : ∀ (l : List Oper) (lab : Nat) {Z : Nat → Prop} {G : Gh} {F Fn : St} {a : Act} {w : World}, Inv E0 w0 Z G F a w → (∀ m, Z m → m < lab) →
    opsRun cfg K false [] ops l lab F = some Fn → (∀ o ∈ l, dstOk o) → (∀ Z' G' a' w', Inv E0 w0 Z' G' Fn a' w' → wpListIn (Fx ro) n cfg.P ops Q l2 a' w') → wpListIn (Fx ro) n cfg.P ops Q (l ++ l2) a w
  | [], lab, Z, G, F, Fn, a, w, h, hz, hr, _, hn => by
    cases hr
    exact hn Z G a w h
  | o :: l, lab, Z, G, F, Fn, a, w, h, hz, hr, hd, hn => by
    simp only [opsRun] at hr
    obtain ⟨b, hg, hr⟩ := Option.bind_eq_some_iff.1 hr
    obtain ⟨F1, h1, h2⟩ := Option.bind_eq_some_iff.1 hr
    have hw := guard_wanted h hg
    simp only [List.cons_append, wpListIn, hw]
    cases b with
    | true =>
      simp only [if_true] at h1 ⊢
      refine op_sound hs h (fun m hm hm' => by have := hz m hm'; simp only [Z1] at hm; omega) h1 (dstOk_iff (hd o (by simp))) (fun G' a' w' h' => ?_)
      exact ops_pre hs l2 l (lab + 64) h' (fun m hm => by rcases hm with hm | hm; (· have := hz m hm; omega); (· simp only [Z1] at hm; omega)) h2 (fun o ho => hd o (by simp [ho])) hn
    | false =>
      simp only [Bool.false_eq_true, if_false] at h1 ⊢
      refine ⟨fun f _ => wide_fn f, ?_⟩
      exact ops_pre hs l2 l (lab + 64) (inv_und h h1) (fun m hm => by have := hz m hm; omega) h2 (fun o ho => hd o (by simp [ho])) hn
end
theorem opd_at {E0 : Nat → Prop} {w0 : Ent} {Z : Nat → Prop} {G : Gh} {F : St} {a : Act} {w : World} (h : Inv E0 w0 Z G F a w) {x : Operand} {e : AV} (he : F.ev x = e) (hf : e.free = true) : R1 G.S G.E e (a.eval x) := by
  have := (opd h x).rv
  rw [he] at this
  exact R1_of this hf
theorem wpl_cons {F : Fence} {n : Nat} {P : Program} {ops : Array Oper} {Q : Exit → Act → World → Prop} {o : Oper} {l : List Oper} {a : Act} {w : World} (hw : Region.wanted o (yielded ops a.tmps) = true) (h : o.wpIn F n P a w (wpListIn F n P ops Q l) Q) : wpListIn F n P ops Q (o :: l) a w := by
  simp only [wpListIn, hw, if_true]
  exact h

structure ItOut (n l : Nat) (F : St) (c0 c1 : List AV) : Prop where
  n : F.n = n
  H : F.H = []
  t0 : F.t 0 = .fn (.yield l) [] []
  t1 : F.t 1 = .box 0 c0
  t2 : F.t 2 = .box 1 c1

theorem iter_ok {cfg : Cfg} (hmix : cfg.P.follows .mixedOrders = true) (hx : ∀ g s as r, cfg.ext g = some s → s as = some r → CSound cfg.P g as [] r []) {gf : Nat} {fn : Func} (hf : cfg.P.funcs[gf]? = some fn)
    {i0 i1 id dy dn tf x1 x2 : Nat} {ty : TypeId} {tys : Array TypeId} {A B C : Code} {ops : Array Oper} {pre : List Oper} {oy on : Oper}
    (hb : fn.body = some (.block i0 (.loop (.seq A (.block i1 (.seq B (.seq C (.seq (.region id ops false) (.cond (.tmp dn) .ret .skip)))))))))
    (hn : 3 ≤ fn.ntmps) (hres : fn.results = #[]) (okA : codeOk A = true) (okB : codeOk B = true) (okC : codeOk C = true) (hops : ops.toList = pre ++ [oy, on]) (hpre : ∀ o ∈ pre, dstOk o) (goy : oy.guard = none) (gon : on.guard = none)
    (hoy : oy.op = .call { callee := .value (.tmp tf), args := #[.tmp x1, .tmp x2], argTypes := tys }) (doy : oy.dst = some dy) (hon : on.op = .unOp .not ty (.tmp dy)) (don : on.dst = some dn) (hdy : 3 ≤ dy) (hdy2 : dy < fn.ntmps) (hdn : 3 ≤ dn) (hdn2 : dn < fn.ntmps)
    {xs : List (AV × AV)} (T : Nat → List AV → List AV → Prop) {cs0 cs1 : List AV} (hT0 : T 0 (cs0.map strip1) (cs1.map strip1))
    (hlast : ∀ c0 c1 l v, T xs.length c0 c1 → Aw cfg A (itF fn.ntmps (cfg.heap gf) l c0 c1 v) fun x F => x = .exit i0 ∧ ∃ c0 c1, ItOut fn.ntmps l F c0 c1)
    (hstep : ∀ k e1 e2 c0 c1 l v, xs[k]? = some (e1, e2) → T k c0 c1 → Aw cfg A (itF fn.ntmps (cfg.heap gf) l c0 c1 v) fun x F1 => x = .normal ∧ Aw cfg B F1 fun x F2 => x = .normal ∧ Aw cfg C F2 fun x F3 => x = .normal ∧ Ow cfg false [] ops pre F3.c F3 fun F4 =>
      F4.ev (.tmp tf) = .fn (.yield l) [] [] ∧ F4.ev (.tmp x1) = e1 ∧ F4.ev (.tmp x2) = e2 ∧ e1.free = true ∧ e2.free = true ∧ NoId e1 ∧ NoId e2 ∧ ∃ c0 c1, ItOut fn.ntmps l F4 c0 c1 ∧ T (k + 1) (c0.map strip1) (c1.map strip1)) :
    IterOk cfg.P gf cs0 cs1 xs := by
  intro l b0 b1 vs0 vs1 J Jx w S φ hne hJ hh0 hh1 Jmem Jturn Jround n
  have hsd : Sound cfg (evK cfg) := ⟨fun g as H r H' h => evK_sound hmix hx h, hx⟩
  refine callsIn_of_wp hf hb trivial ?_
  show Code.wpIn (Fx none) n cfg.P _ _ _ _
  have hstr : ∀ {b : Nat} {cs : List AV} {vs : Array Value}, Holds1 ⟨S, fun _ => none, noE, fun _ => none, φ⟩ w b cs vs → Holds1 ⟨S, fun _ => none, noE, fun _ => none, φ⟩ w b (cs.map strip1) vs := by
    rintro b cs vs ⟨q1, q2, q3, q4, q5⟩
    refine ⟨q1, by simpa using q2, fun x hx => ?_, fun j x v hx hv => ?_, q5⟩
    · obtain ⟨y, hy, rfl⟩ := List.mem_map.1 hx
      rw [plain_strip1]; exact q3 y hy
    · rw [List.getElem?_map] at hx
      simp only [Option.map_eq_some_iff] at hx
      obtain ⟨y, hy, rfl⟩ := hx
      exact strip1_R1 (q4 j y v hy hv)
  have noid : ∀ (cs : List AV), ∀ x ∈ cs.map strip1, ∀ rows nl n, x ≠ .slice rows nl (.id n) := by
    intro cs x hx rows nl n
    obtain ⟨y, _, rfl⟩ := List.mem_map.1 hx
    exact noId_strip1 y rows nl n
  have key : ∀ (m k : Nat) (S : Addr → Option Value) (φ : Nat → Rw) (c0 c1 : List AV) (a : Act) (w : World) (Q : Exit → Act → World → Prop), m + k = xs.length → J k S w → T k c0 c1 → ItH fn.ntmps l b0 b1 S φ c0 c1 a w →
      (∀ a w, a.defers = [] → (∃ S', J xs.length S' w) → Q (.exit i0) a w) → (∀ a w, a.defers = [] → Jx w → Q .ret a w) →
      Code.roundsIn (Fx none) n cfg.P (.seq A (.block i1 (.seq B (.seq C (.seq (.region id ops false) (.cond (.tmp dn) .ret .skip)))))) Q (m + 1) a w := by
    intro m
    induction m with
    | zero =>
      intro k S φ c0 c1 a w Q hk hJ hT hI hQe hQr
      have hk' : k = xs.length := by omega
      subst hk'
      rw [roundsIn_succ]
      refine wpIn_seq (aw_wp hmix hx (hlast c0 c1 l _ hT) (.inl rfl) (hI.inv hne (cfg.heap gf)) okA ?_)
      rintro x F G a' w' ⟨rfl, c0', c1', ho⟩ hi
      obtain ⟨q1, q2, q3, q4, _⟩ := ItH.out hi hn ho.n ho.H ho.t0 ho.t1 ho.t2
      exact hQe a' w' q1.df ⟨_, Jturn _ _ _ _ _ hJ q2 q3 q4 q1.mem⟩
    | succ m ih =>
      intro k S φ c0 c1 a w Q hk hJ hT hI hQe hQr
      have hlt : k < xs.length := by omega
      obtain ⟨⟨e1, e2⟩, hxk⟩ : ∃ p, xs[k]? = some p := ⟨_, List.getElem?_eq_getElem hlt⟩
      rw [roundsIn_succ]
      refine wpIn_seq (aw_wp hmix hx (hstep k e1 e2 c0 c1 l _ hxk hT) (.inl rfl) (hI.inv hne (cfg.heap gf)) okA ?_)
      rintro x F1 G1 a1 w1 ⟨rfl, hB⟩ hi1
      refine wpIn_block (wpIn_seq (aw_wp hmix hx hB (.inl rfl) hi1 okB ?_))
      rintro x F2 G2 a2 w2 ⟨rfl, hC⟩ hi2
      refine wpIn_seq (aw_wp hmix hx hC (.inl rfl) hi2 okC ?_)
      rintro x F3 G3 a3 w3 ⟨rfl, F4, hrun, hv0, hv1, hv2, hf1, hf2, hni1, hni2, c0', c1', ho, hT'⟩ hi3
      refine wpIn_seq (wpIn_region_list ?_)
      rw [hops]
      refine ops_pre hsd [oy, on] pre F3.c hi3 (fun m hm => hm) hrun hpre fun Z4 G4 a4 w4 hi4 => ?_
      obtain ⟨q1, q2, q3, q4, hE⟩ := ItH.out hi4 hn ho.n ho.H ho.t0 ho.t1 ho.t2
      have hJ4 := Jturn _ _ _ _ _ hJ q2 q3 q4 q1.mem
      have r0 := opd_at hi4 hv0 rfl
      have r1 := opd_at hi4 hv1 hf1
      have r2 := opd_at hi4 hv2 hf2
      rw [hE] at r1 r2
      have hy0 : a4.eval (.tmp tf) = .func (.yield l) #[] #[] := by
        generalize a4.eval (.tmp tf) = v at r0
        cases r0 with
        | fn _ _ _ fs cs hf hc =>
          have z1 := List.eq_nil_of_length_eq_zero hf
          have z2 := List.eq_nil_of_length_eq_zero hc
          subst z1 z2
          rfl
      obtain ⟨fr, tmps, assign, body, hy, hround⟩ := Jround k e1 e2 _ _ _ _ (n - 1) hxk hJ4 r1 r2 hni1 hni2
      have hw1 : Region.wanted oy (yielded ops a4.tmps) = true := by simp [Region.wanted, goy]
      refine wpl_cons hw1 ?_
      refine ⟨fun f _ => wide_fn f, ?_⟩
      have hrun1 : (execOp a4.eval oy).run cfg.P w4 = .ok (.round l fr tmps assign body) w4 := by
        unfold execOp
        rw [hoy]
        simp only [Sem.run_bind, resolve, hy0, Deferred.ofValue, Sem.run_pure, Result.andThen, invoke]
        simpa using hy
      rw [show (Fx none).round = none from rfl, semAt_run (ro := none) hrun1 (by intro d e; cases e), hrun1, Oper.uponIn_round]
      refine ⟨fun hd => (by cases hd), RoundIn.mono (F := Fence.wide) hround ?_⟩
      -- behind yield
      have rest : ∀ (b : Bool) (w5 : World) (Q' : Exit → Act → World → Prop), (∀ a6, a6.tmps.size = fn.ntmps → a6.defers = [] → (∀ i, i < 3 → a6.tmps.getD i Go.undef = a4.tmps.getD i Go.undef) → a6.eval (.tmp dn) = .bool (!b) → Q' .normal a6 w5) → wpListIn (Fx none) n cfg.P ops Q' [on] (a4.put (some dy) (.bool b)) w5 := by
        intro b w5 Q' hQ'
        have hsz : (a4.put (some dy) (.bool b)).tmps.size = fn.ntmps := by simp [Act.put]; exact q1.sz
        have hev : (a4.put (some dy) (.bool b)).eval (.tmp dy) = .bool b := by
          show (a4.put (some dy) (.bool b)).tmps.getD dy Go.undef = _
          rw [getD_put (by rw [q1.sz]; exact hdy2)]
          simp
        have hw2 : Region.wanted on (yielded ops (a4.put (some dy) (.bool b)).tmps) = true := by simp [Region.wanted, gon]
        simp only [wpListIn, hw2, if_true]
        have hrun2 : (execOp (a4.put (some dy) (.bool b)).eval on).run cfg.P w5 = .ok (.value (.bool (!b))) w5 := by
          unfold execOp
          rw [hon]
          simp only [Sem.run_bind, hev, Op.unary, Sem.run_pure, Result.andThen]
        refine wp_value (ro := none) hrun2 ?_
        rw [don]
        refine hQ' _ (by simp [Act.put]; exact q1.sz) (by simp [Act.put]; exact q1.df) (fun i hi => ?_) ?_
        · rw [getD_put (by rw [hsz]; exact hdn2), if_neg (by omega), getD_put (by rw [q1.sz]; exact hdy2), if_neg (by omega)]
        · show ((a4.put (some dy) (.bool b)).put (some dn) (.bool (!b))).tmps.getD dn Go.undef = _
          rw [getD_put (by rw [hsz]; exact hdn2)]
          simp
      rintro e w5 (⟨rfl, S5, hJ5, hsS, hkeep⟩ | ⟨rfl, hJx⟩)
      · show wpListIn (Fx none) n cfg.P ops _ [on] _ _
        rw [doy]
        refine rest true w5 _ fun a6 z1 z2 z3 z4 => ?_
        refine wpIn_cond (t := false) (by simpa using z4) ?_
        simp only [Bool.false_eq_true, if_false]
        refine wpIn_skip ?_
        show Code.roundsIn (Fx none) n cfg.P _ Q (m + 1) a6 w5
        have hh : ∀ {b : Nat} {cs : List AV}, b = b0 ∨ b = b1 → (∃ vs, Holds1 ⟨G4.S, fun _ => none, noE, fun _ => none, G4.ρ⟩ w4 b cs vs) → ∃ vs, Holds1 ⟨S5, fun _ => none, noE, fun _ => none, G4.ρ⟩ w5 b cs vs := by
          rintro b cs hb ⟨vs, ⟨ty, y1⟩, y2, y3, y4, y5⟩
          obtain ⟨k1, k2⟩ := hkeep b hb
          exact ⟨vs, ⟨ty, k1.trans y1⟩, y2, y3, fun j x v hx hv => R1.mono hsS (fun _ _ h => h) (y4 j x v hx hv), k2 y5⟩
        refine ih (k + 1) S5 G4.ρ _ _ a6 w5 Q (by omega) hJ5 hT' ⟨Jmem _ _ _ hJ5, hn, z1, z2, (z3 0 (by omega)).trans q1.t0, (z3 1 (by omega)).trans q1.t1, (z3 2 (by omega)).trans q1.t2, hh (.inl rfl) q1.h0, hh (.inr rfl) q1.h1, q1.i0, q1.i1⟩ hQe hQr
      · show wpListIn (Fx none) n cfg.P ops _ [on] _ _
        rw [doy]
        refine rest false w5 _ fun a6 z1 z2 z3 z4 => ?_
        refine wpIn_cond (t := true) (by simpa using z4) ?_
        simp only [if_true]
        refine wpIn_ret ?_
        exact hQr a6 w5 z2 hJx
  refine wpIn_block (wpIn_loop_rounds (xs.length + 1) (key xs.length 0 S φ _ _ _ _ _ rfl hJ hT0 ⟨Jmem _ _ _ hJ, hn, ?_, rfl, ?_, ?_, ?_, ⟨vs0, hstr hh0⟩, ⟨vs1, hstr hh1⟩, noid _, noid _⟩ ?_ ?_))
  · simp; omega
  · rw [Array.getD_eq_getD_getElem?, Array.getElem?_append_left (by simp)]; rfl
  · rw [Array.getD_eq_getD_getElem?, Array.getElem?_append_left (by simp)]; rfl
  · rw [Array.getD_eq_getD_getElem?, Array.getElem?_append_left (by simp)]; rfl
  · rintro a w hd hJ
    simp only [Exit.inBlock, if_true]
    exact ⟨hd, .tuple #[], by simp [results, hres, Sem.run_bind, Sem.run_pure, Result.andThen], ⟨_, rfl⟩, .inl hJ⟩
  · rintro a w hd hJ
    exact ⟨hd, .tuple #[], by simp [results, hres, Sem.run_bind, Sem.run_pure, Result.andThen], ⟨_, rfl⟩, .inr hJ⟩
end Go.Proofs.V
namespace Go.Proofs.V
open Go Go.RowKit
set_option linter.unusedVariables false
set_option linter.unusedSimpArgs false
open Classical in
/-- The rounds, one behind the other. -/
noncomputable def rangeRun (cfg : Cfg) (assign body : Code) (p1 p2 : Nat) : List (AV × AV) → St → Option (X × St)
  | [], F => some (.normal, F)
  | (e1, e2) :: r, F => (evC cfg assign (F.pars p1 p2 e1 e2)).bind fun q => if q.1 = .normal then (evC cfg body q.2).bind fun q2 =>
      if q2.2.H = [] then (if q2.1 = .normal then rangeRun cfg assign body p1 p2 r (F.back q2.2) else some (q2.1, F.back q2.2)) else none
    else none
theorem range_run {cfg : Cfg} (hmix : cfg.P.follows .mixedOrders = true) (hx : ∀ g s as r, cfg.ext g = some s → s as = some r → CSound cfg.P g as [] r [])
    {E0 : Nat → Prop} {w0 : Ent} {G : Gh} {F0 F6 : St} {a : Act} {w : World} {tg : Nat} {ps : Array Tmp} {assign body : Code} {gf p1 p2 : Nat} {cs0 cs1 : List AV} {xs : List (AV × AV)} {n : Nat} {Q : Exit → Act → World → Prop} {x : X}
    (h : Inv E0 w0 (fun m => m < F0.c) G F0 a w) (htg : tg < F0.n) (hg : F0.ev (.tmp tg) = .fn (.func gf) [] [.hp 0 0, .hp 1 0]) (hH : F0.H = [cs0, cs1]) (hn0 : ∀ x ∈ cs0, NoHp x) (hn1 : ∀ x ∈ cs1, NoHp x) (hEm : ∀ l, w0.Em l = none) (hpr : ∀ b, w0.pro b = none)
    (hgf : ∀ args w, (callFunc gf args).run cfg.P w = .ok (.enter gf args) w) (hit : IterOk cfg.P gf cs0 cs1 xs)
    (hps : ps = #[p1, p2]) (hp1 : p1 < F0.n) (hp2 : p2 < F0.n) (hA : noScope assign = true) (hB : noScope body = true) (hAo : codeOk assign = true) (hBo : codeOk body = true)
    (hk : ∀ i, i < F0.n → i ≠ tg → NoHpB (F0.t i)) (hr : rangeRun cfg assign body p1 p2 xs (F0.sansH tg gf) = some (x, F6))
    (hQ : ∀ D G' w', w0.heap.size ≤ D → Inv E0 (w0.with D w0.dfr) (fun m => m < F6.c) G' F6 { tmps := a.tmps, defers := { target := .collected D, args := #[] } :: w0.dfr } w' → Q x.exit' { tmps := a.tmps, defers := { target := .collected D, args := #[] } :: w0.dfr } w') :
    (Code.rangeFunc (.tmp tg) ps assign body).wpIn (Fx none) n cfg.P Q a w := by
  refine range_sound hmix hx h htg hg hH hn0 hn1 hEm hpr hgf hit hps hp1 hp2 hA hB hAo hBo hk (fun k F => F.n = F0.n ∧ rangeRun cfg assign body p1 p2 (xs.drop k) F = some (x, F6)) (fun y F => y = x ∧ F = F6) ⟨rfl, hr⟩ (fun k F h => h.1) ?_ ?_ ?_
  · rintro k F e1 e2 ⟨hn, hF⟩ hxk
    have hlt : k < xs.length := (List.getElem?_eq_some_iff.1 hxk).1
    have hdr : xs.drop k = (e1, e2) :: xs.drop (k + 1) := by
      rw [List.drop_eq_getElem_cons hlt]
      congr 1
      exact (List.getElem?_eq_some_iff.1 hxk).2
    rw [hdr, rangeRun] at hF
    obtain ⟨⟨y1, F1⟩, q1, hF⟩ := Option.bind_eq_some_iff.1 hF
    split at hF
    · rename_i hy1
      simp only at hy1
      subst hy1
      obtain ⟨⟨y2, F2⟩, q2, hF⟩ := Option.bind_eq_some_iff.1 hF
      split at hF
      · rename_i hc
        refine ⟨_, _, q1, rfl, _, _, q2, hc, ?_⟩
        split at hF
        · rename_i hy2
          simp only at hy2
          subst hy2
          exact ⟨hn, hF⟩
        · rename_i hy2
          cases hF
          cases y2 with
          | normal => exact (hy2 rfl).elim
          | _ => exact ⟨rfl, rfl⟩
      · cases hF
    · cases hF
  · rintro D F G' w' hD ⟨_, hF⟩ hi
    rw [List.drop_length, rangeRun] at hF
    cases hF
    exact hQ D G' w' hD hi
  · rintro D y F G' w' hD hy ⟨rfl, rfl⟩ hi
    exact hQ D G' w' hD hi

def nest : List Code → Code → Code
  | [], c => c
  | x :: xs, c => .seq x (nest xs c)
noncomputable def seqRun {α : Type} (cfg : Cfg) : List Code → St → (St → Option α) → (X → St → Option α) → Option α
  | [], F, k, kx => k F
  | c :: cs, F, k, kx => (evC cfg c F).bind fun q => if q.1 = .normal then seqRun cfg cs q.2 k kx else kx q.1 q.2
theorem seq_wp {cfg : Cfg} (hmix : cfg.P.follows .mixedOrders = true) (hx : ∀ g s as r, cfg.ext g = some s → s as = some r → CSound cfg.P g as [] r []) {E0 : Nat → Prop} {w0 : Ent} {c : Code} {n : Nat} {α : Type} {r : α} {Q : Exit → Act → World → Prop} {k : St → Option α} {kx : X → St → Option α} :
    ∀ (pre : List Code) {F : St} {G : Gh} {a : Act} {w : World}, seqRun cfg pre F k kx = some r → Inv E0 w0 (fun m => m < F.c) G F a w → pre.all codeOk = true → (∀ F' G' a' w', k F' = some r → Inv E0 w0 (fun m => m < F'.c) G' F' a' w' → c.wpIn (Fx none) n cfg.P Q a' w') →
      (∀ x F' G' a' w', x ≠ .normal → kx x F' = some r → Inv E0 w0 (fun m => m < F'.c) G' F' a' w' → Q x.exit' a' w') → (nest pre c).wpIn (Fx none) n cfg.P Q a w
  | [], F, G, a, w, h, hi, _, h1, h2 => h1 F G a w h hi
  | p :: pre, F, G, a, w, h, hi, hok, h1, h2 => by
    simp only [List.all_cons, Bool.and_eq_true] at hok
    rw [seqRun] at h
    obtain ⟨⟨x, F1⟩, q1, h⟩ := Option.bind_eq_some_iff.1 h
    refine wpIn_seq (aw_wp hmix hx (Q := fun y F' => y = x ∧ F' = F1) ⟨_, _, q1, rfl, rfl⟩ (.inl rfl) hi hok.1 ?_)
    rintro y F' G' a' w' ⟨rfl, rfl⟩ hi'
    split at h
    · rename_i hy
      simp only at hy
      subst hy
      exact seq_wp hmix hx pre h hi' hok.2 h1 h2
    · rename_i hy
      cases y with
      | normal => exact (hy rfl).elim
      | _ => exact h2 _ _ _ _ _ (by intro e; cases e) h hi'
noncomputable def finA (cfg : Cfg) (fn : Func) (F : St) : Option AV := (resultsA cfg.P F fn.results.toList).bind fun vs => if (vs.all AV.free && F.H.isEmpty) = true then some (leaveR F.al (packA vs)) else none
def onRet {α : Type} (k : St → Option α) : X → St → Option α
  | .ret, F => k F
  | _, _ => none
/-- The parts of a function that ranges over a function. -/
structure RF where
  f : Nat
  pre : List Code
  r5 : Code
  b0 : Nat
  tg : Nat
  gf : Nat
  p1 : Nat
  p2 : Nat
  assign : Code
  body : Code
  post : List Code
open Classical in
noncomputable def rangedRun (cfg : Cfg) (r : RF) (iter : List AV → List AV → Option (List (AV × AV))) (k kr : St → Option AV) (F5 : St) : Option AV :=
  match F5.H with
  | [cs0, cs1] => if F5.ev (.tmp r.tg) = .fn (.func r.gf) [] [.hp 0 0, .hp 1 0] ∧ (∀ x ∈ cs0, NoHp x) ∧ (∀ x ∈ cs1, NoHp x) ∧ r.tg < F5.n ∧ r.p1 < F5.n ∧ r.p2 < F5.n ∧ (∀ i, i < F5.n → i ≠ r.tg → NoHpB (F5.t i)) then
      (iter cs0 cs1).bind fun xs => (rangeRun cfg r.assign r.body r.p1 r.p2 xs (F5.sansH r.tg r.gf)).bind fun q => if q.1 = .normal ∨ q.1 = .exit r.b0 then k q.2 else onRet kr q.1 q.2
    else none
  | _ => none
/-- What the function comes to. -/
noncomputable def rfRun (cfg : Cfg) (fn : Func) (r : RF) (iter : List AV → List AV → Option (List (AV × AV))) (as : List AV) : Option AV :=
  if as.length ≤ fn.ntmps then seqRun cfg r.pre ⟨fn.ntmps, argAt as, 0, fun _ => false, [], cfg.heap r.f⟩ (fun F4 => (evC cfg r.r5 F4).bind fun q => if q.1 = .normal then rangedRun cfg r iter (fun F6 => seqRun cfg r.post F6 (finA cfg fn) (onRet (finA cfg fn))) (finA cfg fn) q.2 else none) (onRet (finA cfg fn))
  else none
end Go.Proofs.V
namespace Go.Proofs.V
open Go Go.RowKit
set_option linter.unusedVariables false
set_option linter.unusedSimpArgs false
theorem finA_run {cfg : Cfg} {fn : Func} {E0 : Nat → Prop} {w0 : Ent} {Z : Nat → Prop} {G : Gh} {F : St} {a : Act} {w : World} (hi : Inv E0 w0 Z G F a w) {r : AV} (h : finA cfg fn F = some r) : ∃ vs v, F.H = [] ∧ r = leaveR F.al (packA vs) ∧ (results fn a.tmps).run cfg.P w = .ok v w ∧ R1 G.S G.E (packA vs) v ∧ Cl G F.al (packA vs) v := by
  unfold finA at h
  obtain ⟨xs, hxs, h⟩ := Option.bind_eq_some_iff.1 h
  split at h
  · rename_i hfree
    cases h
    simp only [Bool.and_eq_true] at hfree
    obtain ⟨vs', e1, e2⟩ := resultsA_sound hi hxs
    obtain ⟨p1, p2⟩ := pack_sound hfree.1 e2 rfl
    refine ⟨xs, _, by simpa using hfree.2, rfl, ?_, p1, p2⟩
    rw [show results fn a.tmps = (do
        let vs ← fn.results.mapM (resM a.tmps)
        pure (if h : vs.size = 1 then vs[0] else .tuple vs)) from rfl]
    rw [Array.mapM_eq_mapM_toList]
    simp only [Sem.run_bind, Sem.run_map]
    rw [e1]
    rfl
  · cases h
theorem rf_sound {cfg : Cfg} (hmix : cfg.P.follows .mixedOrders = true) (hx : ∀ g s as r, cfg.ext g = some s → s as = some r → CSound cfg.P g as [] r []) {fn gfn : Func} {R : RF} {iter : List AV → List AV → Option (List (AV × AV))}
    (hf : cfg.P.funcs[R.f]? = some fn) (hb : fn.body = some (nest R.pre (.seq (.seq R.r5 (.block R.b0 (.rangeFunc (.tmp R.tg) #[R.p1, R.p2] R.assign R.body))) (nest R.post .ret)))) (hname : (fn.name == "runtime.NumGoroutine") = false)
    (hg : cfg.P.funcs[R.gf]? = some gfn) (hgb : gfn.body.isSome = true) (hgn : (gfn.name == "runtime.NumGoroutine") = false)
    (hok : (R.pre.all codeOk && codeOk R.r5 && codeOk R.assign && codeOk R.body && R.post.all codeOk && noScope R.assign && noScope R.body) = true)
    (hit : ∀ cs0 cs1 xs, iter cs0 cs1 = some xs → IterOk cfg.P R.gf cs0 cs1 xs) {as : List AV} {r : AV} (h : rfRun cfg fn R iter as = some r) : CSound cfg.P R.f as [] r [] := by
  simp only [Bool.and_eq_true] at hok
  obtain ⟨⟨⟨⟨⟨⟨o1, o2⟩, o3⟩, o4⟩, o5⟩, o6⟩, o7⟩ := hok
  unfold rfRun at h
  split at h
  · rename_i hl
    intro w S E vs hp hni hlen hR
    have hE0 : E = noE := by
      funext l
      cases hl : E l with
      | none => rfl
      | some b => have := hp.eH l b hl; simp at this
    subst hE0
    have hcall : ∀ {g : Nat} {fn : Func} (hf : cfg.P.funcs[g]? = some fn) (hb : fn.body.isSome = true) (hn : (fn.name == "runtime.NumGoroutine") = false) (args : Array Value) (w : World), (callFunc g args).run cfg.P w = .ok (.enter g args) w := by
      intro g fn hf hb hname args w
      obtain ⟨c, hb⟩ := Option.isSome_iff_exists.1 hb
      simp [callFunc, Sem.run_bind, hf, hb]
      intro hn
      simp [hn] at hname
    refine .inr ⟨hcall hf (by rw [hb]; rfl) hname _ _, fun n => ?_⟩
    refine callsIn_of_wp_marks hf hb trivial ?_
    have h0 := inv_enter (m := cfg.heap R.f) hp hni hlen hR hl
    show Code.wpIn (Fx none) n cfg.P _ _ _ _
    -- out of the function
    have out : ∀ {F : St} {G : Gh} {a : Act} {w' : World}, finA cfg fn F = some r → Inv (fun b => ∃ l, noE l = some b) { toWorld := w, S0 := S, Em := noE } (fun m => m < F.c) G F a w' → LeavesIn Fence.wide n cfg.P fn a.tmps (fun e w' => ∃ v, e = .returned v ∧ ∃ S' E' φ, CPost w S noE r [] v S' E' φ w') [] .returning w' := by
      intro F G a w' hfin hi
      obtain ⟨xs, v, hH, hr, q1, q2, q3⟩ := finA_run hi hfin
      have hpost := leave_post hi q2 q3
      rw [hH, hi.noE hH, ← hr] at hpost
      exact ⟨v, q1, v, rfl, _, _, _, hpost⟩
    have early : ∀ {F : St} {G : Gh} {a : Act} {w' : World}, finA cfg fn F = some r → Inv (fun b => ∃ l, noE l = some b) { toWorld := w, S0 := S, Em := noE } (fun m => m < F.c) G F a w' → LeavesInM Fence.wide n cfg.P fn a.tmps (fun e w' => ∃ v, e = .returned v ∧ ∃ S' E' φ, CPost w S noE r [] v S' E' φ w') a.defers .returning w' := by
      intro F G a w' hfin hi
      have hd : a.defers = [] := hi.df
      rw [hd]
      exact out hfin hi
    -- out of it behind the range
    have late : ∀ {D : Nat} {F : St} {G : Gh} {a : Act} {w' : World}, w.heap.size ≤ D → finA cfg fn F = some r → Inv (fun b => ∃ l, noE l = some b) (Ent.with { toWorld := w, S0 := S, Em := noE } D []) (fun m => m < F.c) G F a w' → LeavesInM Fence.wide n cfg.P fn a.tmps (fun e w' => ∃ v, e = .returned v ∧ ∃ S' E' φ, CPost w S noE r [] v S' E' φ w') a.defers .returning w' := by
      intro D F G a w' hDw hfin hi
      have hd : a.defers = [{ target := .collected D, args := #[] }] := hi.df
      obtain ⟨d1, d2, d3⟩ := hi.pro D (.deferred (some []), true) (by simp [Ent.with])
      rw [hd]
      refine ⟨(by intro e; cases e), .inl ⟨D, _, rfl, run_takeDeferred d1, ?_⟩⟩
      have hi2 : Inv (fun b => ∃ l, noE l = some b) { toWorld := w, S0 := S, Em := noE } (fun m => m < F.c) { G with S := G.S } F { tmps := a.tmps, defers := [] } (w'.putObj D (.deferred none)) :=
        hi.turn (C := fun b => b = D) (pro := fun _ => none) (a' := { tmps := a.tmps, defers := [] }) (bel_put rfl) (fun b hb => by rw [hb]; exact d2) (fun b hb hlt => by have hlt : b < w.heap.size := hlt; omega) (fun _ _ h => h) (fun _ h _ => h) (mem_put hi.mem (d3 rfl)) (fun b o hb => by cases hb) rfl
      exact out (a := { tmps := a.tmps, defers := [] }) hfin hi2
    refine seq_wp hmix hx R.pre h h0 o1 ?_ ?_
    · intro F4 G4 a4 w4 hk hi4
      obtain ⟨⟨x5, F5⟩, q5, hk⟩ := Option.bind_eq_some_iff.1 hk
      split at hk
      · rename_i hx5
        simp only at hx5
        subst hx5
        refine wpIn_seq (wpIn_seq (aw_wp hmix hx (Q := fun y F' => y = .normal ∧ F' = F5) ⟨_, _, q5, rfl, rfl⟩ (.inl rfl) hi4 o2 ?_))
        rintro y F' G5 a5 w5 ⟨rfl, rfl⟩ hi5
        unfold rangedRun at hk
        split at hk
        · rename_i cs0 cs1 hH
          split at hk
          · rename_i hc
            obtain ⟨c1, c2, c3, c4, c5, c6, c7⟩ := hc
            obtain ⟨xs, hxs, hk⟩ := Option.bind_eq_some_iff.1 hk
            obtain ⟨⟨x6, F6⟩, q6, hk⟩ := Option.bind_eq_some_iff.1 hk
            refine wpIn_block (range_run hmix hx hi5 c4 c1 hH c2 c3 (fun _ => rfl) (fun _ => rfl) (hcall hg hgb hgn) (hit cs0 cs1 xs hxs) rfl c5 c6 o6 o7 o3 o4 c7 q6 ?_)
            intro D G6 w6 hD hi6
            have goOn : seqRun cfg R.post F6 (finA cfg fn) (onRet (finA cfg fn)) = some r → (nest R.post .ret).wpIn (Fx none) n cfg.P (bodyPostM Fence.wide n cfg.P fn fun e w' => ∃ v, e = .returned v ∧ ∃ S' E' φ, CPost w S noE r [] v S' E' φ w') { tmps := a5.tmps, defers := { target := .collected D, args := #[] } :: [] } w6 := by
              intro hk
              refine seq_wp hmix hx R.post hk hi6 o5 ?_ ?_
              · intro F7 G7 a7 w7 hf7 hi7
                exact wpIn_ret (late hD hf7 hi7)
              · intro x F7 G7 a7 w7 hne hf7 hi7
                cases x <;> simp only [onRet] at hf7 <;> first | (cases hf7; done) | skip
                exact late hD hf7 hi7
            simp only at hk
            split at hk
            · rename_i hx6
              rcases hx6 with rfl | rfl
              · exact goOn hk
              · simp only [X.exit', Exit.inBlock, if_true]
                exact goOn hk
            · cases x6 <;> simp only [onRet] at hk <;> first | (cases hk; done) | skip
              exact late hD hk hi6
          · cases hk
        · cases hk
      · cases hk
    · intro x F7 G7 a7 w7 hne hf7 hi7
      cases x <;> simp only [onRet] at hf7 <;> first | (cases hf7; done) | skip
      exact early hf7 hi7
  · cases h
end Go.Proofs.V
namespace Go.Proofs.W
open Go Go.Proofs.V
set_option linter.unusedVariables false
set_option linter.unusedSimpArgs false
theorem noHp_at (v : Value) : NoHp (.at v) := fun S E E' u h => by cases h; exact .at _
theorem noHp_slice {rows : List (List AV)} {nl : Bool} {own : V.Own} (h : ∀ r ∈ rows, ∀ x ∈ r, NoHp x) : NoHp (.slice rows nl own) := fun S E E' u hr => by
  cases hr with
  | nil => exact .nil _
  | slice _ _ b off cap sz val hlen hsz hfull hpl h1 h2 =>
    refine .slice rows own b off cap sz val hlen hsz hfull hpl h1 fun i j x hx => ?_
    have := h2 i j x hx
    unfold cellAt at hx
    obtain ⟨r, e1, e2⟩ := Option.bind_eq_some_iff.1 hx
    exact h r (List.mem_of_getElem? e1) x (List.mem_of_getElem? e2) _ _ _ _ this
mutual
theorem cell_noHp : ∀ (c : CT) (x : Tc c) (a : AV), cellR c x a → NoHp a
  | .int k, x, a, h => by simp only [cellR] at h; subst h; exact noHp_at _
  | .bool, x, a, h => by simp only [cellR] at h; subst h; exact noHp_at _
  | .str, x, a, h => by simp only [cellR] at h; subst h; exact noHp_at _
  | .flt k, x, a, h => by simp only [cellR] at h; subst h; exact noHp_at _
  | .cx k, x, a, h => by simp only [cellR] at h; subst h; exact noHp_at _
  | .sl r, l, a, h => by
    simp only [cellR] at h
    obtain ⟨rows, nl, own, rfl, h⟩ := h
    exact noHp_slice fun row hrow a ha => by
      obtain ⟨x, hx, hw⟩ := All2.mem h.1 row hrow
      exact row_noHp r x row hw a ha
theorem row_noHp : ∀ (r : RT) (x : Tr r) (row : List AV), rowR r x row → ∀ a ∈ row, NoHp a
  | .one c, x, row, h, a, ha => by
    simp only [rowR] at h
    obtain ⟨b, rfl, h⟩ := h
    simp at ha; subst ha
    exact cell_noHp c x _ h
  | .cons c r, x, row, h, a, ha => by
    simp only [rowR] at h
    obtain ⟨b, rest, rfl, h1, h2⟩ := h
    rcases List.mem_cons.1 ha with rfl | ha
    · exact cell_noHp c x.1 _ h1
    · exact row_noHp r x.2 rest h2 a ha
end
theorem rows_noHp (r : RT) (l : List (Tr r)) (rows : List (List AV)) (h : All2 (rowR r) l rows) : ∀ row ∈ rows, ∀ a ∈ row, NoHp a := fun row hr a ha => by
  obtain ⟨x, hx, hw⟩ := All2.mem h row hr
  exact row_noHp r x row hw a ha
mutual
/-- Nothing unknown in it. -/
def known : WV → Bool
  | .agg cs => knownL cs
  | .tup cs => knownL cs
  | .ref cs _ => knownL cs
  | .box _ cs => knownL cs
  | .fn _ a b => knownL a && knownL b
  | .top => false
  | _ => true
def knownL : List WV → Bool
  | [] => true
  | w :: ws => known w && knownL ws
end
theorem noHp_agg {as : List AV} (h : ∀ a ∈ as, NoHp a) : NoHp (.agg as) := fun S E E' u hr => by
  cases hr with
  | agg _ vs hl hpl h2 => exact .agg _ _ hl hpl fun j x v hx hv => h x (List.mem_of_getElem? hx) _ _ _ _ (h2 j x v hx hv)
theorem noHp_tup {as : List AV} (h : ∀ a ∈ as, NoHp a) : NoHp (.tup as) := fun S E E' u hr => by
  cases hr with
  | tup _ vs hl h2 => exact .tup _ _ hl fun j x v hx hv => h x (List.mem_of_getElem? hx) _ _ _ _ (h2 j x v hx hv)
theorem noHp_ref {as : List AV} {off : Nat} (h : ∀ a ∈ as, NoHp a) : NoHp (.ref as off) := fun S E E' u hr => by
  cases hr with
  | ref _ _ b o val hpl h1 h2 => exact .ref _ _ b o val hpl h1 fun j x hx => h x (List.mem_of_getElem? hx) _ _ _ _ (h2 j x hx)
theorem noHp_fn {f : Nat} {a b : List AV} (h1 : ∀ x ∈ a, NoHp x) (h2 : ∀ x ∈ b, NoHp x) : NoHp (.fn (.func f) a b) := fun S E E' u hr => by
  cases hr with
  | fn _ _ _ fs cs hf hc q1 q2 => exact .fn _ _ _ fs cs hf hc (fun j x v hx hv => h1 x (List.mem_of_getElem? hx) _ _ _ _ (q1 j x v hx hv)) (fun j x v hx hv => h2 x (List.mem_of_getElem? hx) _ _ _ _ (q2 j x v hx hv))
theorem R1_nobox {S : Addr → Option Value} {E : Nat → Option Nat} {g : Nat} {cs : List AV} {v : Value} : ¬ R1 S E (.box g cs) v := by intro h; cases h
section
variable {O : WO → V.Own → Prop} {γ : Nat → Option Nat}
mutual
theorem known_R : ∀ (w : WV) (a : AV), known w = true → WR O γ w a → NoHp a ∨ (∃ g cs, a = .box g cs ∧ ∀ x ∈ cs, NoHp x) ∨ ∃ g s off, a = .fp g s off
  | .int .., a, _, h => by cases h; exact .inl (noHp_at _)
  | .bool .., a, _, h => by cases h; exact .inl (noHp_at _)
  | .str .., a, _, h => by cases h; exact .inl (noHp_at _)
  | .flt .., a, _, h => by cases h; exact .inl (noHp_at _)
  | .cx .., a, _, h => by cases h; exact .inl (noHp_at _)
  | .sl r l o, a, _, h => by
    cases h with
    | sl _ _ _ rows nl own h ho => exact .inl (noHp_slice fun row hrow => rows_noHp r l rows h.1 row hrow)
  | .nil, a, _, h => by cases h; exact .inl (noHp_slice fun r hr => by simp at hr)
  | .agg cs, a, hk, h => by
    simp only [known] at hk
    cases h with
    | agg _ as hl h => exact .inl (noHp_agg (knownL_R cs as hk (wrl_of hl h)))
  | .tup cs, a, hk, h => by
    simp only [known] at hk
    cases h with
    | tup _ as hl h => exact .inl (noHp_tup (knownL_R cs as hk (wrl_of hl h)))
  | .ref cs off, a, hk, h => by
    simp only [known] at hk
    cases h with
    | ref _ as _ hl h => exact .inl (noHp_ref (knownL_R cs as hk (wrl_of hl h)))
  | .fp .., a, _, h => by cases h; exact .inr (.inr ⟨_, _, _, rfl⟩)
  | .box g cs, a, hk, h => by
    simp only [known] at hk
    cases h with
    | box _ g' _ _ as hl h => exact .inr (.inl ⟨_, _, rfl, knownL_R cs as hk (wrl_of hl h)⟩)
  | .fn f c1 c2, a, hk, h => by
    simp only [known, Bool.and_eq_true] at hk
    cases h with
    | fn _ _ _ a1 a2 l1 l2 q1 q2 => exact .inl (noHp_fn (knownL_R c1 a1 hk.1 (wrl_of l1 q1)) (knownL_R c2 a2 hk.2 (wrl_of l2 q2)))
  | .top, a, hk, _ => by simp [known] at hk
theorem knownL_R : ∀ (ws : List WV) (as : List AV), knownL ws = true → WRL O γ ws as → ∀ a ∈ as, NoHp a
  | [], [], _, _, a, ha => by simp at ha
  | w :: ws, b :: as, hk, h, a, ha => by
    simp only [knownL, Bool.and_eq_true] at hk
    rcases List.mem_cons.1 ha with rfl | ha
    · rcases known_R w _ hk.1 h.1 with q | ⟨g, cs, rfl, _⟩ | ⟨g, s, off, rfl⟩
      · exact q
      · exact fun S E E' u hr => (R1_nobox hr).elim
      · exact fun S E E' u hr => by cases hr
    · exact knownL_R ws as hk.2 h.2 a ha
end
theorem known_B {w : WV} {a : AV} (hk : known w = true) (h : WR O γ w a) : NoHpB a := by
  rcases known_R w a hk h with q | ⟨g, cs, rfl, q⟩ | ⟨g, s, off, rfl⟩
  · cases a <;> first | exact q | skip
    case fp => trivial
    case box =>
      cases h with
      | box _ g' hg _ as hl h => exact knownL_R _ _ (by simpa [known] using hk) (wrl_of hl h)
      | top => simp [known] at hk
  · exact q
  · trivial
end
mutual
def encC : (c : CT) → Tc c → AV
  | .int k, n => .at (.int k n)
  | .bool, b => .at (.bool b)
  | .str, s => .at (.string ⟨⟨s⟩⟩)
  | .flt k, n => .at (.float k n)
  | .cx k, z => .at (.complex k z.1 z.2)
  | .sl _, _ => .at Go.undef
def encR : (r : RT) → Tr r → List AV
  | .one c, x => [encC c x]
  | .cons c r, x => encC c x.1 :: encR r x.2
end
/-- No slices in it. -/
def flatRT : RT → Bool
  | .one c => match c with
    | .sl _ => false
    | _ => true
  | .cons c r => (match c with
    | .sl _ => false
    | _ => true) && flatRT r
theorem encR_R : ∀ (r : RT) (x : Tr r) (row : List AV), flatRT r = true → rowR r x row → row = encR r x
  | .one c, x, row, hf, h => by
    simp only [rowR] at h
    obtain ⟨a, rfl, h⟩ := h
    cases c <;> simp only [flatRT] at hf <;> first | (cases hf; done) | (simp only [cellR] at h; simp only [encR, encC, h])
  | .cons c r, x, row, hf, h => by
    simp only [rowR] at h
    obtain ⟨a, rest, rfl, h1, h2⟩ := h
    simp only [flatRT, Bool.and_eq_true] at hf
    rw [encR_R r x.2 rest hf.2 h2]
    cases c <;> simp only at hf <;> first | (cases hf.1; done) | (simp only [cellR] at h1; simp only [encR, encC, h1])
theorem encR_row : ∀ (r : RT) (x : Tr r), flatRT r = true → rowR r x (encR r x)
  | .one c, x, hf => by
    cases c <;> simp only [flatRT] at hf <;> first | (cases hf; done) | (simp only [rowR, encR, encC, cellR]; exact ⟨_, rfl, rfl⟩)
  | .cons c r, x, hf => by
    simp only [flatRT, Bool.and_eq_true] at hf
    have := encR_row r x.2 hf.2
    cases c <;> simp only at hf <;> first | (cases hf.1; done) | (simp only [rowR, encR, encC, cellR]; exact ⟨_, _, rfl, rfl, this⟩)
def decC : (c : CT) → AV → Option (Tc c)
  | .int k, .at (.int k' n) => if k = k' then some n else none
  | .bool, .at (.bool b) => some b
  | .str, .at (.string s) => some s.data.toList
  | .flt k, .at (.float k' n) => if k = k' then some n else none
  | .cx k, .at (.complex k' a b) => if k = k' then some (a, b) else none
  | _, _ => none
def decR : (r : RT) → List AV → Option (Tr r)
  | .one c, [a] => decC c a
  | .cons c r, a :: as => (decC c a).bind fun x => (decR r as).map fun y => (x, y)
  | _, _ => none
def decL (r : RT) : List (List AV) → Option (List (Tr r))
  | [] => some []
  | a :: l => (decR r a).bind fun x => (decL r l).map fun y => x :: y
theorem decR_of : ∀ (r : RT) (x : Tr r) (row : List AV), flatRT r = true → rowR r x row → decR r row = some x
  | .one c, x, row, hf, h => by
    simp only [rowR] at h
    obtain ⟨a, rfl, h⟩ := h
    cases c <;> simp only [flatRT] at hf <;> first | (cases hf; done) | (simp only [cellR] at h; subst h; simp [decR, decC])
  | .cons c r, x, row, hf, h => by
    simp only [rowR] at h
    obtain ⟨a, rest, rfl, h1, h2⟩ := h
    simp only [flatRT, Bool.and_eq_true] at hf
    have := decR_of r x.2 rest hf.2 h2
    cases c <;> simp only at hf <;> first | (cases hf.1; done) | (simp only [cellR] at h1; subst h1; simp [decR, decC, this])
theorem decL_of (r : RT) (hf : flatRT r = true) : ∀ (l : List (Tr r)) (rows : List (List AV)), All2 (rowR r) l rows → decL r rows = some l
  | [], [], _ => rfl
  | x :: l, row :: rows, h => by simp [decL, decR_of r x row hf h.1, decL_of r hf l rows h.2]
theorem decC_R (c : CT) (a : AV) (x : Tc c) (h : decC c a = some x) : cellR c x a := by
  cases c <;> cases a <;> first | (simp [decC] at h; done) | skip
  all_goals (rename_i v; cases v <;> first | (simp [decC] at h; done) | skip)
  all_goals first
    | (simp only [decC] at h; split at h <;> first | (cases h; done) | (rename_i e; subst e; cases h; simp only [cellR]))
    | (simp only [decC] at h; cases h; simp only [cellR])
theorem dec_R : ∀ (r : RT) (row : List AV) (x : Tr r), flatRT r = true → decR r row = some x → rowR r x row
  | .one c, [a], x, hf, h => by
    simp only [decR] at h
    exact ⟨a, rfl, decC_R c a x h⟩
  | .one c, [], x, hf, h => by simp [decR] at h
  | .one c, _ :: _ :: _, x, hf, h => by simp [decR] at h
  | .cons c r, [], x, hf, h => by simp [decR] at h
  | .cons c r, a :: as, x, hf, h => by
    simp only [flatRT, Bool.and_eq_true] at hf
    simp only [decR, Option.bind_eq_some_iff, Option.map_eq_some_iff] at h
    obtain ⟨y, h1, z, h2, rfl⟩ := h
    exact ⟨a, as, rfl, decC_R c a y h1, dec_R r as z hf.2 h2⟩
end Go.Proofs.W
namespace Go.Proofs.W
open Go Go.Proofs.V
set_option linter.unusedVariables false
set_option linter.unusedSimpArgs false
def wpars (ws : WS) (p1 p2 : Nat) (w1 w2 : WV) : WS := { ws with t := upd (upd ws.t p1 w1) p2 w2 }
def rangeP {A S R : Type} (step : A → S → (S → Option R) → (S → Option R) → Option R) : List A → S → (S → Option R) → (S → Option R) → Option R
  | [], s, k, _ => k s
  | x :: xs, s, k, kr => step x s (fun s' => rangeP step xs s' k kr) kr
def wstep {R : Type} (W : WC) (H : Hs) (fu : Nat) (assign body : Code) (p1 p2 : Nat) (r1 r2 : RT) (h : List HE) (x : Tr r1 × Tr r2) (s : Tl (hdyn h)) (k kr : Tl (hdyn h) → Option R) : Option R :=
  match hunpack H.n H.m h s with
    | some ws => wcode W H fu assign (wpars ws p1 p2 (.agg (rowW r1 x.1)) (.agg (rowW r2 x.2))) fun y ws1 => match y with
      | .normal => wcode W H fu body ws1 fun y ws2 => match hpack H.n H.m ws2 h with
        | some s' => match y with
          | .normal => k s'
          | .ret => kr s'
          | _ => none
        | none => none
      | _ => none
    | none => none
def wrange {R : Type} (W : WC) (H : Hs) (fu : Nat) (assign body : Code) (p1 p2 : Nat) (r1 r2 : RT) (h : List HE) : List (Tr r1 × Tr r2) → Tl (hdyn h) → (Tl (hdyn h) → Option R) → (Tl (hdyn h) → Option R) → Option R := rangeP (wstep W H fu assign body p1 p2 r1 r2 h)
def enc2 (r1 r2 : RT) (x : Tr r1 × Tr r2) : AV × AV := (.agg (encR r1 x.1), .agg (encR r2 x.2))
def allBox : List HE → Bool
  | [] => true
  | .box _ _ :: h => allBox h
  | _ => false
theorem hfill_box : ∀ (h : List HE) (ls : List WV) (l : List (Nat × WV)) (ls' : List WV), allBox h = true → hfill h ls = some (l, ls') → l.map (·.1) = hbox h ∧ ∀ p ∈ l, ∃ g cs, p.2 = .box g cs
  | [], ls, l, ls', _, hf => by cases hf; exact ⟨rfl, fun p hp => by simp at hp⟩
  | .box s sl :: h, ls, l, ls', hb, hf => by
    simp only [hfill] at hf
    split at hf
    · split at hf
      · simp only [Option.map_eq_some_iff] at hf
        obtain ⟨⟨l2, ls2⟩, h1, h2⟩ := hf
        cases h2
        obtain ⟨q1, q2⟩ := hfill_box h _ _ _ hb h1
        refine ⟨by simp [hbox, q1], fun p hp => ?_⟩
        rcases List.mem_cons.1 hp with rfl | hp
        · exact ⟨_, _, rfl⟩
        · exact q2 p hp
      · cases hf
    · cases hf
  | .val .. :: h, ls, l, ls', hb, hf => by cases hb
  | .fp .. :: h, ls, l, ls', hb, hf => by cases hb
theorem lookT_box : ∀ (l : List (Nat × WV)), (∀ p ∈ l, ∃ g cs, p.2 = .box g cs) → ∀ i, (lookT l i = .top ∧ i ∉ l.map (·.1)) ∨ (i ∈ l.map (·.1) ∧ ∃ g cs, lookT l i = .box g cs)
  | [], _, i => .inl ⟨rfl, by simp⟩
  | (s, w) :: l, h, i => by
    simp only [lookT, List.map_cons, List.mem_cons]
    by_cases e : i = s
    · subst e
      obtain ⟨g, cs, hw⟩ := h (i, w) (List.mem_cons_self ..)
      have hw : w = .box g cs := hw
      subst hw
      exact .inr ⟨.inl rfl, g, cs, if_pos rfl⟩
    · rw [if_neg e]
      rcases lookT_box l (fun p hp => h p (List.mem_cons_of_mem _ hp)) i with ⟨h1, h2⟩ | ⟨h1, h2⟩
      · exact .inl ⟨h1, fun hc => by rcases hc with hc | hc; exact e hc; exact h2 hc⟩
      · exact .inr ⟨.inr h1, h2⟩
theorem hunpack_box {n : Nat} {m : List TypeId} {h : List HE} {s : Tl (hdyn h)} {ws : WS} (hb : allBox h = true) (hu : hunpack n m h s = some ws) (i : Nat) : (ws.t i = .top ∧ i ∉ hbox h) ∨ (i ∈ hbox h ∧ ∃ g cs, ws.t i = .box g cs) := by
  unfold hunpack at hu
  split at hu
  · rename_i l hf
    cases hu
    obtain ⟨q1, q2⟩ := hfill_box h _ _ _ hb hf
    rw [← q1]
    exact lookT_box l q2 i
  · cases hu
theorem back_R {ws ws' : WS} {F F2 : St} {n : Nat} {m : List TypeId} {h : List HE} {s s' : Tl (hdyn h)} (hb : allBox h = true) (hu : hunpack n m h s = some ws) (hu' : hunpack n m h s' = some ws') (hr : StR ws F F.c) (hr' : StR ws' F2 F2.c)
    (hst : ∀ i ∈ hbox h, ∀ g cs, F.t i = .box g cs → NB F2 i ∨ ∃ cs', F2.t i = .box g cs') (hn : F2.n = F.n) (hm : F2.m = F.m) : StR ws' (F.back F2) (F.back F2).c := by
  obtain ⟨θ, γ, hr⟩ := hr
  obtain ⟨θ', γ', hr'⟩ := hr'
  refine ⟨θ', γ', hn.symm.trans hr'.n, hr'.H, fun t => ?_, fun i => ?_, hr'.b, hr'.i, hr'.f, hr'.g⟩
  · show F.m t = _
    rw [← hm]; exact hr'.m t
  · show WR (ownR ws'.al F2.al θ') γ' (ws'.t i) (backV (F.t i) (F2.t i))
    rcases hunpack_box hb hu' i with ⟨e, _⟩ | ⟨hi, g, cs, e⟩
    · rw [e]; exact .top _
    · rcases hunpack_box hb hu i with ⟨_, e2⟩ | ⟨_, g2, cs2, e2⟩
      · exact absurd hi e2
      · have w1 := hr.t i
        have w2 := hr'.t i
        rw [e2] at w1
        rw [e] at w2
        cases hF : F.t i <;> rw [hF] at w1 <;> cases w1
        cases hF2 : F2.t i <;> rw [hF2] at w2 <;> cases w2
        rcases hst i hi _ _ hF with hnb | ⟨cs', hc⟩
        · exact absurd hF2 (hnb _ _)
        · rw [hF2] at hc
          cases hc
          rw [e]
          simp only [backV, if_true]
          exact .box _ _ (by assumption) _ _ (by assumption) (by assumption)
theorem pars_R {ws : WS} {F : St} {p1 p2 : Nat} {r1 r2 : RT} {x : Tr r1 × Tr r2} (h1 : flatRT r1 = true) (h2 : flatRT r2 = true) (hr : StR ws F F.c) : StR (wpars ws p1 p2 (.agg (rowW r1 x.1)) (.agg (rowW r2 x.2))) (F.pars p1 p2 (enc2 r1 r2 x).1 (enc2 r1 r2 x).2) (F.pars p1 p2 (enc2 r1 r2 x).1 (enc2 r1 r2 x).2).c := by
  obtain ⟨θ, γ, hr⟩ := hr
  refine ⟨θ, γ, hr.n, hr.H, hr.m, fun i => ?_, hr.b, hr.i, hr.f, hr.g⟩
  have hok : ∀ o, ownR ws.al F.al θ .no o := fun o => trivial
  show WR (ownR ws.al F.al θ) γ (upd (upd ws.t p1 _) p2 _ i) (upd (upd F.t p1 _) p2 _ i)
  simp only [upd_apply]
  split
  · exact wr_agg (rowW_R hok r2 x.2 _ (encR_row r2 x.2 h2))
  · split
    · exact wr_agg (rowW_R hok r1 x.1 _ (encR_row r1 x.1 h1))
    · exact hr.t i
theorem hunpack_nm {n : Nat} {m : List TypeId} {h : List HE} {s : Tl (hdyn h)} {ws : WS} (hu : hunpack n m h s = some ws) : ws.n = n ∧ ws.m = m := by
  unfold hunpack at hu
  split at hu
  · cases hu; exact ⟨rfl, rfl⟩
  · cases hu
theorem rl_same {ws ws' : WS} {F F2 : St} {n : Nat} {m : List TypeId} {h : List HE} {s s' : Tl (hdyn h)} {B B' : Nat} (hu : hunpack n m h s = some ws) (hu' : hunpack n m h s' = some ws') (hr : StR ws F B) (hr' : StR ws' F2 B') : F2.n = F.n ∧ F2.m = F.m := by
  obtain ⟨θ, γ, hr⟩ := hr
  obtain ⟨θ', γ', hr'⟩ := hr'
  obtain ⟨q1, q2⟩ := hunpack_nm hu
  obtain ⟨q3, q4⟩ := hunpack_nm hu'
  refine ⟨by rw [hr'.n, hr.n, q1, q3], funext fun t => by rw [hr'.m, hr.m, q2, q4]⟩
theorem stay_pars {F : St} {p1 p2 : Nat} {e1 e2 : AV} {i : Nat} (h1 : i ≠ p1) (h2 : i ≠ p2) : (F.pars p1 p2 e1 e2).t i = F.t i := by
  simp only [St.pars, upd_apply, if_neg h1, if_neg h2]
def rangeOk (h : List HE) (assign body : Code) (p1 p2 : Nat) : Bool := allBox h && (hbox h).all fun i => !(dsts assign).contains i && !(dsts body).contains i && i != p1 && i != p2
theorem wrange_sound {W : WC} {cfg : Cfg} {R : Type} {r : R} {H : Hs} (hW : WOk W cfg) {fu : Nat} {assign body : Code} {p1 p2 : Nat} {r1 r2 : RT} {h : List HE} (hok : rangeOk h assign body p1 p2 = true) (h1 : flatRT r1 = true) (h2 : flatRT r2 = true) {k kr : Tl (hdyn h) → Option R} :
    ∀ (xs : List (Tr r1 × Tr r2)) {s : Tl (hdyn h)} {ws : WS} {F : St}, hunpack H.n H.m h s = some ws → StR ws F F.c → wrange W H fu assign body p1 p2 r1 r2 h xs s k kr = some r →
      ∃ x F6, rangeRun cfg assign body p1 p2 (xs.map (enc2 r1 r2)) F = some (x, F6) ∧ ∃ s6 ws6, hunpack H.n H.m h s6 = some ws6 ∧ StR ws6 F6 F6.c ∧ ((x = .normal ∧ k s6 = some r) ∨ (x = .ret ∧ kr s6 = some r))
  | [], s, ws, F, hu, hr, hw => ⟨.normal, F, rfl, s, ws, hu, hr, .inl ⟨rfl, hw⟩⟩
  | x :: xs, s, ws, F, hu, hr, hw => by
    simp only [rangeOk, Bool.and_eq_true, List.all_eq_true, Bool.not_eq_true', bne_iff_ne, ne_eq] at hok
    obtain ⟨hb, hall⟩ := hok
    simp only [wrange, rangeP, wstep, hu] at hw
    have key : Aw cfg assign (F.pars p1 p2 (enc2 r1 r2 x).1 (enc2 r1 r2 x).2) fun y F1 => y = .normal ∧ StayG (dsts assign) (F.pars p1 p2 (enc2 r1 r2 x).1 (enc2 r1 r2 x).2) F1 ∧ Aw cfg body F1 fun y F2 => StayG (dsts body) F1 F2 ∧ ∃ s' ws', hunpack H.n H.m h s' = some ws' ∧ StR ws' F2 F2.c ∧
        ((y = .normal ∧ wrange W H fu assign body p1 p2 r1 r2 h xs s' k kr = some r) ∨ (y = .ret ∧ kr s' = some r)) := by
      refine aw_stayG (wcode_sound hW fu assign (pars_R h1 h2 hr) hw fun y ws1 F1 q1 q2 q3 => ?_)
      cases y with
      | normal =>
        refine ⟨rfl, q3, aw_stayG (wcode_sound hW fu body q1 q2 fun y ws2 F2 q4 q5 q6 => ⟨q6, ?_⟩)⟩
        split at q5
        · rename_i s' hs'
          obtain ⟨ws', q7, q8⟩ := hrepack q4 hs'
          refine ⟨s', ws', q7, q8, ?_⟩
          cases y with
          | normal => exact .inl ⟨rfl, q5⟩
          | ret => exact .inr ⟨rfl, q5⟩
          | exit i => cases q5
          | goto i => cases q5
        · cases q5
      | ret => cases q2
      | exit i => cases q2
      | goto i => cases q2
    obtain ⟨y, F1, e1, rfl, st1, y2, F2, e2, st2, s', ws', u', r', hk⟩ := key
    obtain ⟨n1, n2⟩ := rl_same hu u' hr r'
    have hH : F2.H = [] := by obtain ⟨θ, γ, q⟩ := r'; exact q.H
    have hback := back_R hb hu u' hr r' (fun i hi g cs hF => by
      obtain ⟨⟨⟨c1, c2⟩, c3⟩, c4⟩ := hall i hi
      have hp : (F.pars p1 p2 (enc2 r1 r2 x).1 (enc2 r1 r2 x).2).t i = .box g cs := (stay_pars c3 c4).trans hF
      rcases (st1 i c1).2 g cs hp with hn | ⟨cs1, hb1⟩
      · left
        unfold NB
        rw [(st2 i c2).1 hn]
        exact hn
      · exact (st2 i c2).2 g cs1 hb1) n1 n2
    have hstep : rangeRun cfg assign body p1 p2 ((x :: xs).map (enc2 r1 r2)) F = if y2 = .normal then rangeRun cfg assign body p1 p2 (xs.map (enc2 r1 r2)) (F.back F2) else some (y2, F.back F2) := by
      simp only [List.map_cons]
      rw [show enc2 r1 r2 x = ((enc2 r1 r2 x).1, (enc2 r1 r2 x).2) from rfl]
      simp only [rangeRun, e1, Option.bind_some, if_true, e2, hH]
    rcases hk with ⟨rfl, hk⟩ | ⟨rfl, hk⟩
    · obtain ⟨x6, F6, z1, z2⟩ := wrange_sound hW (by simp only [rangeOk, Bool.and_eq_true, List.all_eq_true, Bool.not_eq_true', bne_iff_ne, ne_eq]; exact ⟨hb, hall⟩) h1 h2 xs u' hback hk
      exact ⟨x6, F6, by rw [hstep, if_pos rfl]; exact z1, z2⟩
    · exact ⟨.ret, F.back F2, by rw [hstep, if_neg (by intro e; cases e)], s', ws', u', hback, .inr ⟨rfl, hk⟩⟩
end Go.Proofs.W
