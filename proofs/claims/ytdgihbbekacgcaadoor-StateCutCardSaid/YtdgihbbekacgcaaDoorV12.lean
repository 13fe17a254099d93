/- Writes: a store into a box, or into the heap. -/
import Derived.Test.YtdgihbbekacgcaaDoorV11
namespace Go.Proofs.V
open Go Go.RowKit
set_option linter.unusedVariables false
set_option linter.unusedSimpArgs false

/-- One block has turned. -/
structure Chg (w w' : World) (b : Nat) (vs : Array Value) (ty : TypeId) : Prop where
  at_ : w'.heap[b]? = some (.cells vs ty (0, 0))
  other : ∀ k, k ≠ b → w'.heap[k]? = w.heap[k]?
  size : w'.heap.size = w.heap.size
  os : w'.os = w.os
  tape : w'.tape = w.tape
  output : w'.output = w.output

theorem one_one' {v : Value} : Value.one v = v.oneCell' := by cases v <;> rfl

theorem storeCells_run {P : Program} {b off : Nat} {ty : TypeId} : ∀ (us : List Value) (i : Nat) (vs : Array Value) (w : World), w.heap[b]? = some (.cells vs ty (0, 0)) → off + i + us.length ≤ vs.size → (∀ v ∈ us, Value.one v = true) →
    ∃ w' vs', (storeCells ⟨b, off, none⟩ us i).run P w = .ok () w' ∧ Chg w w' b vs' ty ∧ vs'.size = vs.size ∧ ∀ j : Nat, vs'[j]? = if off + i ≤ j ∧ j < off + i + us.length then us[j - (off + i)]? else vs[j]?
  | [], i, vs, w, hb, _, _ => ⟨w, vs, rfl, ⟨hb, fun _ _ => rfl, rfl, rfl, rfl, rfl⟩, rfl, fun j => by rw [if_neg (by simp only [List.length_nil]; omega)]⟩
  | u :: us, i, vs, w, hb, hl, h1 => by
    simp only [List.length_cons] at hl
    have hlt : off + i < vs.size := by omega
    have hcell : w.cell? ⟨b, off + i, none⟩ = some vs[off + i] := by simp [World.cell?, hb, hlt]
    have hfr : w.frozen? ⟨b, off + i, none⟩ = false := by simp [World.frozen?, hb]
    have hset : (w.setCell ⟨b, off + i, none⟩ u).heap[b]? = some (.cells (vs.setIfInBounds (off + i) u) ty (0, 0)) := by
      simp [World.setCell, Array.getElem?_modify, hb]
    have hl' : off + (i + 1) + us.length ≤ (vs.setIfInBounds (off + i) u).size := by simp; omega
    obtain ⟨w', vs', e1, e2, e3, e4⟩ := storeCells_run us (i + 1) (vs.setIfInBounds (off + i) u) (w.setCell ⟨b, off + i, none⟩ u) hset hl' (fun v hv => h1 v (List.mem_cons_of_mem _ hv))
    refine ⟨w', vs', ?_, ⟨e2.at_, fun k hk => (e2.other k hk).trans (Below.heap_setCell _ _ _ _ hk), by rw [e2.size]; simp [World.setCell], e2.os, e2.tape, e2.output⟩, by rw [e3]; simp, fun j => ?_⟩
    · have hone : u.oneCell' = true := by rw [← one_one']; exact h1 u (List.mem_cons_self ..)
      simp only [storeCells, Sem.run_bind, add_none]
      rw [run_store P w ⟨b, off + i, none⟩ u .plain hone, hcell]
      simp only [hfr, Bool.false_eq_true, if_false, Result.andThen_ok]
      exact e1
    · rw [e4]
      simp only [List.length_cons]
      by_cases h0 : j = off + i
      · subst h0
        rw [if_neg (by omega), if_pos (by omega)]
        simp [hlt]
      · by_cases h2 : off + (i + 1) ≤ j ∧ j < off + (i + 1) + us.length
        · rw [if_pos h2, if_pos (by omega), show j - (off + i) = (j - (off + (i + 1))) + 1 by omega]
          simp
        · rw [if_neg h2, if_neg (by omega), Array.getElem?_setIfInBounds_ne (Ne.symm h0)]

section
variable {E0 : Nat → Prop} {w0 : Ent} {Z : Nat → Prop} {G : Gh} {F : St} {a : Act} {w : World} {P : Program} {lab : Nat}

theorem Chg.mem {w' : World} {b : Nat} {vs : Array Value} {ty : TypeId} (c : Chg w w' b vs ty) (hm : Mem G.S w) (hS : ∀ ad : Addr, ad.block = b → G.S ad = none) : Mem G.S w' := by
  intro ad v hv
  have hne : ad.block ≠ b := fun h => by rw [hS ad h] at hv; cases hv
  rw [World.cell?_of_block (w := w) (c.other _ hne)]
  exact hm ad v hv
theorem Chg.bel {w' : World} {b : Nat} {vs : Array Value} {ty : TypeId} (c : Chg w w' b vs ty) (hb : w0.heap.size ≤ b ∨ E0 b) (h : Bel E0 w0 w) : Bel E0 w0 w' where
  os := c.os.trans h.os
  tape := c.tape.trans h.tape
  output := c.output.trans h.output
  size := by rw [c.size]; exact h.size
  block k hk he := by
    have hne : k ≠ b := by
      rintro rfl
      rcases hb with h1 | h1
      · omega
      · exact he h1
    rw [c.other k hne]; exact h.block k hk he

theorem Holds1.other {w' : World} {b b' : Nat} {vs vs' : Array Value} {ty : TypeId} {cs : List AV} (c : Chg w w' b vs ty) (hne : b' ≠ b) (h : Holds1 G w b' cs vs') : Holds1 G w' b' cs vs' := by
  obtain ⟨⟨ty', h1⟩, h2, h3, h4, h5⟩ := h
  exact ⟨⟨ty', (c.other _ hne).trans h1⟩, h2, h3, h4, h5⟩

theorem PW_storable {x : AV} {v : Value} (h : R1 G.S G.E x v) (hs : x.storable = true) : ∀ u ∈ v.cells.toList, Value.one u = true := by
  have hp := cells_R1 h hs
  intro u hu
  obtain ⟨j, hj⟩ := List.getElem?_of_mem hu
  have hj' : v.cells[j]? = some u := by simpa using hj
  have hlt : j < x.cells.length := by rw [← hp.1]; exact (Array.getElem?_eq_some_iff.1 hj').1
  exact R1.one (hp.2.2 j _ u (List.getElem?_eq_getElem hlt) hj') (hp.2.1 _ (List.getElem_mem hlt))

/-- What a write over a part of the cells leaves. -/
theorem splice_PW {row cs : List AV} {vs vs' us : Array Value} {off : Nat} (hl : vs.size = row.length) (hp : ∀ x ∈ row, AV.plain x = true) (hR : ∀ (j : Nat) (x : AV) (v : Value), row[j]? = some x → vs[j]? = some v → R1 G.S G.E x v)
    (hc : PW G cs us) (hfit : off + cs.length ≤ row.length) (hs : vs'.size = vs.size) (hv : ∀ j : Nat, vs'[j]? = if off ≤ j ∧ j < off + us.size then us[j - off]? else vs[j]?) : PW G (splice row off cs) vs' := by
  refine ⟨by rw [hs, hl, splice_len _ _ _ hfit], ?_, ?_⟩
  · intro x hm
    obtain ⟨j, hj⟩ := List.getElem?_of_mem hm
    rw [splice_get _ _ _ hfit] at hj
    split at hj
    · exact hc.2.1 x (List.mem_of_getElem? hj)
    · exact hp x (List.mem_of_getElem? hj)
  · intro j x v hj hjv
    rw [splice_get _ _ _ hfit] at hj
    rw [hv, hc.1] at hjv
    split at hj
    · rename_i h1; rw [if_pos h1] at hjv; exact hc.2.2 _ _ _ hj hjv
    · rename_i h1; rw [if_neg h1] at hjv; exact hR _ _ _ hj hjv

/-- The run of a store. -/
theorem store_run {o : Oper} {t : TypeId} {p x : Operand} (ho : o.op = .store t p x) {n b off : Nat} {vs : Array Value} {ty : TypeId} (hn : tsz P t = some n) (hpv : a.eval p = .pointer (some ⟨b, off, none⟩)) (hxl : (a.eval x).cells.size = n) (hone : ∀ u ∈ (a.eval x).cells.toList, Value.one u = true)
    (hb : w.heap[b]? = some (.cells vs ty (0, 0))) (hfit : off + n ≤ vs.size) :
    ∃ w' vs', (execOp a.eval o).run P w = .ok .skip w' ∧ Chg w w' b vs' ty ∧ vs'.size = vs.size ∧ ∀ j : Nat, vs'[j]? = if off ≤ j ∧ j < off + (a.eval x).cells.size then (a.eval x).cells[j - off]? else vs[j]? := by
  obtain ⟨w', vs', e1, e2, e3, e4⟩ := storeCells_run (P := P) (b := b) (off := off) (ty := ty) (a.eval x).cells.toList 0 vs w hb (by simp [hxl]; omega) hone
  refine ⟨w', vs', ?_, e2, e3, fun j => ?_⟩
  · simp only [execOp, ho, Instr.storeAt, hpv, Instr.sureAddr, Sem.run_bind, Sem.run_pure, Result.andThen_ok, storeVar, run_tsz hn]
    rw [if_neg (by rw [hxl]; simp)]
    rw [e1]
    rfl
  · have := e4 j
    simpa using this

theorem inv_store (h : Inv E0 w0 Z G F a w) {o : Oper} {t : TypeId} {p x : Operand} (ho : o.op = .store t p x) {n : Nat} (hn : tsz P t = some n) (hs : (F.ev x).storable = true) (hl : (F.ev x).cells.length = n) {F' : St} (hw : F.write (F.ev p) (F.ev x).cells = some F') :
    ∃ w', (execOp a.eval o).run P w = .ok .skip w' ∧ Inv E0 w0 Z G F' a w' := by
  have hxo := opd h x
  have hxr := opd_R1 hxo (storable_free hs)
  have hPW := cells_R1 hxr hs
  have hxl : (a.eval x).cells.size = n := by rw [hPW.1, hl]
  have hone := PW_storable hxr hs
  have hp := opd h p
  generalize hpv : F.ev p = pv at *
  cases pv <;> simp only [St.write] at hw <;> first | (cases hw; done) | skip
  · -- a box
    rename_i g tt off
    split at hw
    · rename_i g' row hrow
      split at hw
      · rename_i hc
        obtain ⟨rfl, hfit⟩ := hc
        have := Option.some.inj hw; subst this
        obtain ⟨b, vs, hB, hb0, hu, ⟨⟨ty, hheap⟩, hsz, hpl, hR, hS⟩, hcl⟩ := h.box tt g row hrow
        obtain ⟨b', hb', hpa⟩ := hp.rv
        rw [hB] at hb'
        have := Option.some.inj hb'; subst this
        obtain ⟨w', vs', e1, e2, e3, e4⟩ := store_run (P := P) ho hn hpa hxl hone hheap (by rw [hsz]; omega)
        refine ⟨w', e1, ?_⟩
        have hnew := splice_PW (G := G) hsz hpl hR hPW hfit e3 e4
        have hdis : ∀ i gg cs, F.t i = .box gg cs → i ≠ tt → ∀ (b' : Nat) (vs' : Array Value), G.B gg = some b' → G.u b' = some (.slot i) → b' ≠ b := by
          rintro i gg cs hi hne b' vs' h1 h2 rfl
          rw [hu] at h2
          injection h2 with h2
          injection h2 with h2
          exact hne h2.symm
        exact {
          nsz := h.nsz
          df := h.df
          slot := fun i => by
            simp only [upd_apply]
            split
            · rename_i hi
              subst hi
              have := h.slot i
              rw [hrow] at this
              exact this
            · exact h.slot i
          cl := fun i hb' => by
            simp only [upd_apply] at hb' ⊢
            split
            · rename_i hi; exact absurd (by rw [if_pos hi]) (hb' g (splice row off (F.ev x).cells))
            · rename_i hi; exact h.cl i (by simpa only [hi, if_false] using hb')
          ids := fun i m => by
            simp only [upd_apply]
            split
            · rename_i hi
              rintro ⟨y, hy, rows, nl, rfl⟩
              simp only [parts, splice, List.mem_append] at hy
              rcases hy with (hy | hy) | hy
              · exact h.ids tt m ⟨_, by rw [hrow]; exact List.mem_of_mem_take hy, rows, nl, rfl⟩
              · refine hxo.ids m ⟨.slice rows nl (.id m), ?_, rows, nl, rfl⟩
                unfold AV.cells at hy
                split at hy
                · rename_i cs he; rw [he]; exact hy
                · rename_i he
                  simp only [List.mem_singleton] at hy
                  rw [← hy]
                  simp [parts]
              · exact h.ids tt m ⟨_, by rw [hrow]; exact List.mem_of_mem_drop hy, rows, nl, rfl⟩
            · exact h.ids i m
          mem := e2.mem h.mem hS
          bel := e2.bel (.inl hb0) h.bel
          rel := h.rel
          box := fun i gg cs hi => by
            simp only [upd_apply] at hi
            split at hi
            · rename_i hit
              subst hit
              cases hi
              refine ⟨b, vs', hB, hb0, hu, ⟨⟨ty, e2.at_⟩, hnew.1, hnew.2.1, hnew.2.2, hS⟩, ?_⟩
              intro j y u hy hyu
              rw [splice_get _ _ _ hfit] at hy
              rw [e4, hPW.1] at hyu
              split at hy
              · rename_i h1
                rw [if_pos h1] at hyu
                have hcx := hxo.cl (j - off) y u
                unfold AV.cells at hy
                split at hy
                · rename_i cs he
                  rw [he] at hcx
                  generalize a.eval x = v at *
                  rw [he] at hxr
                  cases hxr
                  exact hcx hy (by simpa [vparts, Value.cells] using hyu)
                · rename_i hna
                  have hpy : (F.ev x).plain = true := by
                    have := hPW.2.1 (F.ev x) (by unfold AV.cells; split <;> first | (rename_i he; exact absurd he (hna _)) | simp)
                    exact this
                  have hv1 := R1.one hxr hpy
                  have hvp : vparts (a.eval x) = [a.eval x] ∧ (a.eval x).cells = #[a.eval x] := by
                    generalize a.eval x = v at *
                    cases v <;> first | exact ⟨rfl, rfl⟩ | cases hv1
                  rw [hvp.2] at hyu
                  rw [plain_parts hpy, hvp.1] at hcx
                  exact hcx hy (by simpa using hyu)
              · rename_i h1
                rw [if_neg h1] at hyu
                exact hcl j y u hy hyu
            · rename_i hit
              obtain ⟨b', vs2, q1, q2, q3, q4, q5⟩ := h.box i gg cs hi
              have hne := hdis i gg cs hi hit b' vs2 q1 q3
              exact ⟨b', vs2, q1, q2, q3, q4.other e2 hne, q5⟩
          row := fun m ha => by
            obtain ⟨q1, q2, ⟨vs2, ty2, q3, q3'⟩, q4, q5⟩ := h.row m ha
            have hne : (G.ρ m).b ≠ b := by
              intro hh
              rw [hh, hu] at q2
              injection q2 with q2
              cases q2
            exact ⟨q1, q2, ⟨vs2, ty2, (e2.other _ hne).trans q3, q3'⟩, q4, q5⟩
          obj := fun l cs hlc => by
            obtain ⟨b', vs2, q1, q2, q3, q4⟩ := h.obj l cs hlc
            have hne : b' ≠ b := by
              rintro rfl
              rw [hu] at q3
              injection q3 with q3
              cases q3
            exact ⟨b', vs2, q1, q2, q3, q4.other e2 hne⟩
          zB := h.zB
          zal := h.zal
          live := fun b' hb' => by rw [e2.size]; exact h.live b' hb' }
      · cases hw
    · cases hw
  · -- the heap
    rename_i l off
    split at hw
    · rename_i row hrow
      split at hw
      · rename_i hfit
        have := Option.some.inj hw; subst this
        obtain ⟨b, vs, hE, hb0, hu, ⟨⟨ty, hheap⟩, hsz, hpl, hR, hS⟩⟩ := h.obj l row hrow
        have hpr : R1 G.S G.E (.hp l off) (a.eval p) := hp.rv
        have hpa : a.eval p = .pointer (some ⟨b, off, none⟩) := by
          generalize a.eval p = v at *
          cases hpr with
          | hp _ _ b' hb' => rw [hE] at hb'; rw [Option.some.inj hb']
        obtain ⟨w', vs', e1, e2, e3, e4⟩ := store_run (P := P) ho hn hpa hxl hone hheap (by rw [hsz]; omega)
        refine ⟨w', e1, ?_⟩
        have hnew := splice_PW (G := G) hsz hpl hR hPW.strip (by simpa using hfit) e3 e4
        have hll : l < F.H.length := (List.getElem?_eq_some_iff.1 hrow).1
        exact {
          nsz := h.nsz
          df := h.df
          slot := h.slot
          cl := h.cl
          ids := h.ids
          mem := e2.mem h.mem hS
          bel := e2.bel hb0 h.bel
          rel := ⟨h.rel.1, h.rel.2.1, h.rel.2.2.1, h.rel.2.2.2.1, fun l b hb => by simpa using h.rel.2.2.2.2 l b hb⟩
          box := fun i gg cs hi => by
            obtain ⟨b', vs2, q1, q2, q3, q4, q5⟩ := h.box i gg cs hi
            have hne : b' ≠ b := by
              rintro rfl
              rw [hu] at q3
              injection q3 with q3
              cases q3
            exact ⟨b', vs2, q1, q2, q3, q4.other e2 hne, q5⟩
          row := fun m ha => by
            obtain ⟨q1, q2, ⟨vs2, ty2, q3, q3'⟩, q4, q5⟩ := h.row m ha
            have hne : (G.ρ m).b ≠ b := by
              intro hh
              rw [hh, hu] at q2
              injection q2 with q2
              cases q2
            exact ⟨q1, q2, ⟨vs2, ty2, (e2.other _ hne).trans q3, q3'⟩, q4, q5⟩
          obj := fun l' cs hlc => by
            by_cases hl' : l' = l
            · subst hl'
              rw [List.getElem?_set_self hll] at hlc
              have := Option.some.inj hlc; subst this
              exact ⟨b, vs', hE, hb0, hu, ⟨⟨ty, e2.at_⟩, hnew.1, hnew.2.1, hnew.2.2, hS⟩⟩
            · rw [List.getElem?_set_ne (Ne.symm hl')] at hlc
              obtain ⟨b', vs2, q1, q2, q3, q4⟩ := h.obj l' cs hlc
              have hne : b' ≠ b := by
                rintro rfl
                rw [hu] at q3
                injection q3 with q3
                injection q3 with q3
                exact hl' q3.symm
              exact ⟨b', vs2, q1, q2, q3, q4.other e2 hne⟩
          zB := h.zB
          zal := h.zal
          live := fun b' hb' => by rw [e2.size]; exact h.live b' hb' }
      · cases hw
    · cases hw
end
end Go.Proofs.V
