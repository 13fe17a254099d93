/- A frame's invariant: taken anew, and across a round. -/
import Derived.Test.YtdgihbbekacgcaaGreatDoorK8
import Derived.RangeFuncSeq
import Derived.RangeFuncOwn
import Derived.RangeFuncLeaves
namespace Go.Proofs.V
open Go Go.RowKit
set_option linter.unusedVariables false
set_option linter.unusedSimpArgs false
/-- The same beginning, with what is known by now. -/
def Ent.rebase (w0 : Ent) (G : Gh) (pro : Nat → Option (Obj × Bool)) (dfr : List Deferred) : Ent := { w0 with S0 := G.S, Em := G.E, Bm := G.B, pro := pro, dfr := dfr }
section
variable {E0 : Nat → Prop} {w0 : Ent} {Z : Nat → Prop} {G : Gh} {F : St} {a : Act} {w : World}
theorem Inv.rebase (h : Inv E0 w0 Z G F a w) {pro : Nat → Option (Obj × Bool)} (hp : ∀ b o, pro b = some o → w.heap[b]? = some o.1 ∧ G.u b = none ∧ (o.2 = true → ∀ ad : Addr, ad.block = b → G.S ad = none)) {a' : Act} (ht : a'.tmps = a.tmps) : Inv E0 (w0.rebase G pro a'.defers) Z G F a' w where
  nsz := by rw [ht]; exact h.nsz
  df := rfl
  slot i := by rw [ht]; exact h.slot i
  cl i hb := by rw [ht]; exact h.cl i hb
  ids := h.ids
  mem := h.mem
  bel := h.bel
  rel := ⟨fun _ _ h => h, fun _ h _ _ => h, fun _ _ h => h, fun l b h0 hb => (by
    have h0 : G.E l = none := h0
    have hb : G.E l = some b := hb
    rw [h0] at hb; cases hb), h.rel.2.2.2.2⟩
  box := h.box
  row := h.row
  obj := h.obj
  zB := h.zB
  zal := h.zal
  live := h.live
  pro := hp
  bm := fun _ _ h => h
/-- What lies apart may turn, and more may be known. -/
theorem Inv.turn (h : Inv E0 w0 Z G F a w) {C : Nat → Prop} {w' : World} {S' : Addr → Option Value} {pro : Nat → Option (Obj × Bool)} {a' : Act} (hb : Bel C w w') (hu : ∀ b, C b → G.u b = none) (h0 : ∀ b, C b → b < w0.heap.size → E0 b)
    (sS : ∀ ad v, G.S ad = some v → S' ad = some v) (sN : ∀ ad : Addr, G.S ad = none → ad.block < w.heap.size → S' ad = none) (mem : Mem S' w')
    (hp : ∀ b o, pro b = some o → w'.heap[b]? = some o.1 ∧ G.u b = none ∧ (o.2 = true → ∀ ad : Addr, ad.block = b → S' ad = none)) (ht : a'.tmps = a.tmps) : Inv E0 { w0 with pro := pro, dfr := a'.defers } Z { G with S := S' } F a' w' := by
  have keep : ∀ {b : Nat} {tg : Tg}, G.u b = some tg → w'.heap[b]? = w.heap[b]? := by
    intro b tg hq
    exact hb.block b (h.live b (by rw [hq]; rfl)) (fun hc => by rw [hu b hc] at hq; cases hq)
  have hRV : ∀ {x : AV} {v : Value}, RV G x v → RV { G with S := S' } x v := by
    intro x v hr
    cases x with
    | fp p q r => exact hr
    | box p q => exact hr
    | _ => exact R1.mono sS (fun _ _ h => h) hr
  have holds : ∀ {b : Nat} {cs : List AV} {vs : Array Value} {tg : Tg}, G.u b = some tg → Holds1 G w b cs vs → Holds1 { G with S := S' } w' b cs vs := by
    rintro b cs vs tg hq ⟨⟨ty, q1⟩, q2, q3, q4, q5⟩
    have hlt := h.live b (by rw [hq]; rfl)
    exact ⟨⟨ty, (keep hq).trans q1⟩, q2, q3, fun j x v hx hv => R1.mono sS (fun _ _ h => h) (q4 j x v hx hv), fun ad ha => sN ad (q5 ad ha) (by rw [ha]; exact hlt)⟩
  exact {
    nsz := by rw [ht]; exact h.nsz
    df := rfl
    slot := fun i => by rw [ht]; exact hRV (h.slot i)
    cl := fun i hb => by rw [ht]; exact h.cl i hb
    ids := h.ids
    mem := mem
    bel := ⟨hb.os.trans h.bel.os, hb.tape.trans h.bel.tape, hb.output.trans h.bel.output, Nat.le_trans h.bel.size hb.size, fun k hk he => (hb.block k (Nat.lt_of_lt_of_le hk h.bel.size) (fun hc => he (h0 k hc hk))).trans (h.bel.block k hk he)⟩
    rel := ⟨fun ad v hv => sS _ _ (h.rel.1 ad v hv), fun ad hn hlt he => sN ad (h.rel.2.1 ad hn hlt he) (Nat.lt_of_lt_of_le hlt h.bel.size), h.rel.2.2.1, h.rel.2.2.2.1, h.rel.2.2.2.2⟩
    box := fun i g cs hi => by
      obtain ⟨b, vs, h1, h2, h3, h4, h5⟩ := h.box i g cs hi
      exact ⟨b, vs, h1, h2, h3, holds h3 h4, h5⟩
    row := fun n hn => by
      obtain ⟨h1, h2, ⟨vs, ty, h3, h3'⟩, h4, h5⟩ := h.row n hn
      exact ⟨h1, h2, ⟨vs, ty, (keep h2).trans h3, h3'⟩, h4, fun o ho => sN _ (h5 o ho) (h.live _ (by rw [h2]; rfl))⟩
    obj := fun l cs hl => by
      obtain ⟨b, vs, h1, h2, h3, h4⟩ := h.obj l cs hl
      exact ⟨b, vs, h1, h2, h3, holds h3 h4⟩
    zB := h.zB
    zal := h.zal
    live := fun b hq => Nat.lt_of_lt_of_le (h.live b hq) hb.size
    pro := hp
    bm := h.bm }
end
/-- What is left of a frame's state behind a round. -/
def backV (x y : AV) : AV := match x with
  | .box g _ => match y with
    | .box g' cs' => if g = g' then .box g cs' else .ref [] 0
    | _ => .ref [] 0
  | x => strip x
def St.back (F F2 : St) : St := { n := F.n, t := fun i => backV (F.t i) (F2.t i), c := F2.c, al := F2.al, H := F2.H, m := F.m }
theorem backV_cases (x y : AV) : (∃ g cs cs', x = .box g cs ∧ y = .box g cs' ∧ backV x y = .box g cs') ∨ ((∃ g cs, x = .box g cs) ∧ backV x y = .ref [] 0) ∨ ((∀ g cs, x ≠ .box g cs) ∧ backV x y = strip x) := by
  cases x with
  | box g cs =>
    cases y with
    | box g' cs' =>
      by_cases e : g = g'
      · subst e; exact .inl ⟨g, cs, cs', rfl, rfl, by simp [backV]⟩
      · exact .inr (.inl ⟨⟨g, cs, rfl⟩, by simp [backV, e]⟩)
    | _ => exact .inr (.inl ⟨⟨g, cs, rfl⟩, rfl⟩)
  | _ => exact .inr (.inr ⟨(by intro g cs e; cases e), rfl⟩)
theorem noId_ref (r : List AV) (o : Nat) : NoId (.ref r o) := by rintro n ⟨y, hy, rows, nl, rfl⟩; simp [parts] at hy
theorem strip_RV {G : Gh} {x : AV} {v : Value} (h : RV G x v) (hb : ∀ g cs, x ≠ .box g cs) : RV G (strip x) v := by
  cases x with
  | fp g s off => exact h
  | box g cs => exact absurd rfl (hb g cs)
  | _ => exact RV_of (strip_R1 (show R1 G.S G.E _ _ from h))
section
variable {E0 : Nat → Prop} {w0 : Ent} {Z : Nat → Prop} {G : Gh} {F : St} {a : Act} {w : World}
/-- Behind a round the outer frame holds, with the boxes as the round left them. -/
theorem Inv.back (h : Inv E0 w0 Z G F a w) {pro : Nat → Option (Obj × Bool)} {dfr : List Deferred} {Z2 : Nat → Prop} {G2 : Gh} {F2 : St} {a2 : Act} {w2 : World} (h2 : Inv E0 (w0.rebase G pro dfr) Z2 G2 F2 a2 w2)
    (hpro : ∀ b o, w0.pro b = some o → pro b = some o) : Inv E0 w0 Z2 G2 (F.back F2) a w2 := by
  have hS : ∀ ad v, G.S ad = some v → G2.S ad = some v := h2.rel.1
  have hE : ∀ l b, G.E l = some b → G2.E l = some b := h2.rel.2.2.1
  have hB : ∀ g b, G.B g = some b → G2.B g = some b := h2.bm
  have hRV : ∀ {x : AV} {v : Value}, RV G x v → RV G2 x v := by
    intro x v hr
    cases x with
    | fp p q r => obtain ⟨b, h1, h3⟩ := hr; exact ⟨b, hB _ _ h1, h3⟩
    | box p q => obtain ⟨b, h1, h3⟩ := hr; exact ⟨b, hB _ _ h1, h3⟩
    | _ => exact R1.mono hS hE hr
  exact {
    nsz := h.nsz
    df := h.df
    slot := fun i => by
      show RV G2 (backV (F.t i) (F2.t i)) _
      have hs := h.slot i
      rcases backV_cases (F.t i) (F2.t i) with ⟨g, cs, cs', e1, e2, e3⟩ | ⟨⟨g, cs, e1⟩, e3⟩ | ⟨e1, e3⟩
      · rw [e3]
        rw [e1] at hs
        obtain ⟨b, q1, q2⟩ := hs
        exact ⟨b, hB _ _ q1, q2⟩
      · rw [e3]
        rw [e1] at hs
        obtain ⟨b, q1, q2⟩ := hs
        rw [q2]
        exact R1.ref [] 0 b 0 (fun _ => Go.undef) (fun x hx => by simp at hx) (fun j x hx => by simp at hx) (fun j x hx => by simp at hx)
      · rw [e3]
        exact hRV (strip_RV hs e1)
    cl := fun i hb => by
      have hb : ∀ g cs, backV (F.t i) (F2.t i) ≠ .box g cs := hb
      show Cl G2 F2.al (backV (F.t i) (F2.t i)) _
      rcases backV_cases (F.t i) (F2.t i) with ⟨g, cs, cs', e1, e2, e3⟩ | ⟨⟨g, cs, e1⟩, e3⟩ | ⟨e1, e3⟩
      · exact absurd e3 (hb _ _)
      · rw [e3]; exact Cl_of_noId (noId_ref _ _)
      · rw [e3]; exact Cl_of_noId (noId_strip e1)
    ids := fun i n hid => by
      have hid : HasId n (backV (F.t i) (F2.t i)) := hid
      rcases backV_cases (F.t i) (F2.t i) with ⟨g, cs, cs', e1, e2, e3⟩ | ⟨⟨g, cs, e1⟩, e3⟩ | ⟨e1, e3⟩
      · rw [e3, ← e2] at hid
        exact h2.ids i n hid
      · rw [e3] at hid; exact absurd hid (noId_ref _ _ n)
      · rw [e3] at hid; exact absurd hid (noId_strip e1 n)
    mem := h2.mem
    bel := h2.bel
    rel := ⟨fun ad v hv => hS _ _ (h.rel.1 ad v hv), fun ad h0 hb he => h2.rel.2.1 ad (h.rel.2.1 ad h0 hb he) hb he, fun l b hb => hE _ _ (h.rel.2.2.1 l b hb), fun l b h0 hb => by
      cases hl : G.E l with
      | none => exact h2.rel.2.2.2.1 l b hl hb
      | some b' =>
        have := hE l b' hl
        rw [hb] at this
        cases this
        exact h.rel.2.2.2.1 l b h0 hl, h2.rel.2.2.2.2⟩
    box := fun i g cs hi => by
      have hi : backV (F.t i) (F2.t i) = .box g cs := hi
      rcases backV_cases (F.t i) (F2.t i) with ⟨g', cs', cs'', e1, e2, e3⟩ | ⟨⟨g', cs', e1⟩, e3⟩ | ⟨e1, e3⟩
      · rw [e3, ← e2] at hi
        exact h2.box i g cs hi
      · rw [e3] at hi; cases hi
      · rw [e3] at hi
        cases hF : F.t i <;> rw [hF] at hi <;> simp [strip, strip1] at hi
        case box => exact absurd hF (e1 _ _)
        case slice rows nl own => cases own <;> simp at hi
    row := h2.row
    obj := h2.obj
    zB := h2.zB
    zal := h2.zal
    live := h2.live
    pro := fun b o hb => h2.pro b o (hpro b o hb)
    bm := fun g b hb => hB g b (h.bm g b hb) }
end
end Go.Proofs.V
