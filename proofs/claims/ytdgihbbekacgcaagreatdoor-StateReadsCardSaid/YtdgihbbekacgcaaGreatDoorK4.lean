/- Writes: a store into a box, or into the heap. -/
import Derived.Test.YtdgihbbekacgcaaGreatDoorK3
namespace Go.Proofs.V
open Go Go.RowKit
set_option linter.unusedVariables false
set_option linter.unusedSimpArgs false
/-- One block has turned. -/
structure Chg (w w' : World) (b : Nat) (vs : Array Value) (ty : TypeId) : Prop where
  at_ : w'.heap[b]? = some (.cells vs ty (0, 0))
  other : ∀ k, k ≠ b → w'.heap[k]? = w.heap[k]?
  size : w'.heap.size = w.heap.size
  os : w'.os = w.os
  tape : w'.tape = w.tape
  output : w'.output = w.output

theorem one_one' {v : Value} : Value.one v = v.oneCell' := by cases v <;> rfl

theorem storeCells_run {P : Program} {b off : Nat} {ty : TypeId} : ∀ (us : List Value) (i : Nat) (vs : Array Value) (w : World), w.heap[b]? = some (.cells vs ty (0, 0)) → off + i + us.length ≤ vs.size → (∀ v ∈ us, Value.one v = true) →
    ∃ w' vs', (storeCells ⟨b, off, none⟩ us i).run P w = .ok () w' ∧ Chg w w' b vs' ty ∧ vs'.size = vs.size ∧ ∀ j : Nat, vs'[j]? = if off + i ≤ j ∧ j < off + i + us.length then us[j - (off + i)]? else vs[j]?
  | [], i, vs, w, hb, _, _ => ⟨w, vs, rfl, ⟨hb, fun _ _ => rfl, rfl, rfl, rfl, rfl⟩, rfl, fun j => by rw [if_neg (by simp only [List.length_nil]; omega)]⟩
  | u :: us, i, vs, w, hb, hl, h1 => by
    simp only [List.length_cons] at hl
    have hlt : off + i < vs.size := by omega
    have hcell : w.cell? ⟨b, off + i, none⟩ = some vs[off + i] := by simp [World.cell?, hb, hlt]
    have hfr : w.frozen? ⟨b, off + i, none⟩ = false := by simp [World.frozen?, hb]
    have hset : (w.setCell ⟨b, off + i, none⟩ u).heap[b]? = some (.cells (vs.setIfInBounds (off + i) u) ty (0, 0)) := by
      simp [World.setCell, Array.getElem?_modify, hb]
    have hl' : off + (i + 1) + us.length ≤ (vs.setIfInBounds (off + i) u).size := by simp; omega
    obtain ⟨w', vs', e1, e2, e3, e4⟩ := storeCells_run us (i + 1) (vs.setIfInBounds (off + i) u) (w.setCell ⟨b, off + i, none⟩ u) hset hl' (fun v hv => h1 v (List.mem_cons_of_mem _ hv))
    refine ⟨w', vs', ?_, ⟨e2.at_, fun k hk => (e2.other k hk).trans (Below.heap_setCell _ _ _ _ hk), by rw [e2.size]; simp [World.setCell], e2.os, e2.tape, e2.output⟩, by rw [e3]; simp, fun j => ?_⟩
    · have hone : u.oneCell' = true := by rw [← one_one']; exact h1 u (List.mem_cons_self ..)
      simp only [storeCells, Sem.run_bind, add_none]
      rw [run_store P w ⟨b, off + i, none⟩ u .plain hone, hcell]
      simp only [hfr, Bool.false_eq_true, if_false, Result.andThen_ok]
      exact e1
    · rw [e4]
      simp only [List.length_cons]
      by_cases h0 : j = off + i
      · subst h0
        rw [if_neg (by omega), if_pos (by omega)]
        simp [hlt]
      · by_cases h2 : off + (i + 1) ≤ j ∧ j < off + (i + 1) + us.length
        · rw [if_pos h2, if_pos (by omega), show j - (off + i) = (j - (off + (i + 1))) + 1 by omega]
          simp
        · rw [if_neg h2, if_neg (by omega), Array.getElem?_setIfInBounds_ne (Ne.symm h0)]

section
variable {E0 : Nat → Prop} {w0 : Ent} {Z : Nat → Prop} {G : Gh} {F : St} {a : Act} {w : World} {P : Program} {lab : Nat}
theorem Chg.mem {w' : World} {b : Nat} {vs : Array Value} {ty : TypeId} (c : Chg w w' b vs ty) (hm : Mem G.S w) (hS : ∀ ad : Addr, ad.block = b → G.S ad = none) : Mem G.S w' := by
  intro ad v hv
  have hne : ad.block ≠ b := fun h => by rw [hS ad h] at hv; cases hv
  rw [World.cell?_of_block (w := w) (c.other _ hne)]
  exact hm ad v hv
theorem Chg.bel {w' : World} {b : Nat} {vs : Array Value} {ty : TypeId} (c : Chg w w' b vs ty) (hb : w0.heap.size ≤ b ∨ E0 b) (h : Bel E0 w0 w) : Bel E0 w0 w' where
  os := c.os.trans h.os
  tape := c.tape.trans h.tape
  output := c.output.trans h.output
  size := by rw [c.size]; exact h.size
  block k hk he := by
    have hne : k ≠ b := by
      rintro rfl
      rcases hb with h1 | h1
      · omega
      · exact he h1
    rw [c.other k hne]; exact h.block k hk he

theorem Holds1.other {w' : World} {b b' : Nat} {vs vs' : Array Value} {ty : TypeId} {cs : List AV} (c : Chg w w' b vs ty) (hne : b' ≠ b) (h : Holds1 G w b' cs vs') : Holds1 G w' b' cs vs' := by
  obtain ⟨⟨ty', h1⟩, h2, h3, h4, h5⟩ := h
  exact ⟨⟨ty', (c.other _ hne).trans h1⟩, h2, h3, h4, h5⟩

theorem PW_storable {x : AV} {v : Value} (h : R1 G.S G.E x v) (hs : x.storable = true) : ∀ u ∈ v.cells.toList, Value.one u = true := by
  have hp := cells_R1 h hs
  intro u hu
  obtain ⟨j, hj⟩ := List.getElem?_of_mem hu
  have hj' : v.cells[j]? = some u := by simpa using hj
  have hlt : j < x.cells.length := by rw [← hp.1]; exact (Array.getElem?_eq_some_iff.1 hj').1
  exact R1.one (hp.2.2 j _ u (List.getElem?_eq_getElem hlt) hj') (hp.2.1 _ (List.getElem_mem hlt))

/-- What a write over a part of the cells leaves. -/
theorem splice_PW {row cs : List AV} {vs vs' us : Array Value} {off : Nat} (hl : vs.size = row.length) (hp : ∀ x ∈ row, AV.plain x = true) (hR : ∀ (j : Nat) (x : AV) (v : Value), row[j]? = some x → vs[j]? = some v → R1 G.S G.E x v)
    (hc : PW G cs us) (hfit : off + cs.length ≤ row.length) (hs : vs'.size = vs.size) (hv : ∀ j : Nat, vs'[j]? = if off ≤ j ∧ j < off + us.size then us[j - off]? else vs[j]?) : PW G (splice row off cs) vs' := by
  refine ⟨by rw [hs, hl, splice_len _ _ _ hfit], ?_, ?_⟩
  · intro x hm
    obtain ⟨j, hj⟩ := List.getElem?_of_mem hm
    rw [splice_get _ _ _ hfit] at hj
    split at hj
    · exact hc.2.1 x (List.mem_of_getElem? hj)
    · exact hp x (List.mem_of_getElem? hj)
  · intro j x v hj hjv
    rw [splice_get _ _ _ hfit] at hj
    rw [hv, hc.1] at hjv
    split at hj
    · rename_i h1; rw [if_pos h1] at hjv; exact hc.2.2 _ _ _ hj hjv
    · rename_i h1; rw [if_neg h1] at hjv; exact hR _ _ _ hj hjv

/-- The run of a store. -/
theorem store_run {o : Oper} {t : TypeId} {p x : Operand} (ho : o.op = .store t p x) {n b off : Nat} {vs : Array Value} {ty : TypeId} (hn : tsz P t = some n) (hpv : a.eval p = .pointer (some ⟨b, off, none⟩)) (hxl : (a.eval x).cells.size = n) (hone : ∀ u ∈ (a.eval x).cells.toList, Value.one u = true)
    (hb : w.heap[b]? = some (.cells vs ty (0, 0))) (hfit : off + n ≤ vs.size) :
    ∃ w' vs', (execOp a.eval o).run P w = .ok .skip w' ∧ Chg w w' b vs' ty ∧ vs'.size = vs.size ∧ ∀ j : Nat, vs'[j]? = if off ≤ j ∧ j < off + (a.eval x).cells.size then (a.eval x).cells[j - off]? else vs[j]? := by
  obtain ⟨w', vs', e1, e2, e3, e4⟩ := storeCells_run (P := P) (b := b) (off := off) (ty := ty) (a.eval x).cells.toList 0 vs w hb (by simp [hxl]; omega) hone
  refine ⟨w', vs', ?_, e2, e3, fun j => ?_⟩
  · simp only [execOp, ho, Instr.storeAt, hpv, Instr.sureAddr, Sem.run_bind, Sem.run_pure, Result.andThen_ok, storeVar, run_tsz hn]
    rw [if_neg (by rw [hxl]; simp)]
    rw [e1]
    rfl
  · have := e4 j
    simpa using this

theorem inv_store (h : Inv E0 w0 Z G F a w) {o : Oper} {t : TypeId} {p x : Operand} (ho : o.op = .store t p x) {n : Nat} (hn : tsz P t = some n) (hs : (F.ev x).storable = true) (hl : (F.ev x).cells.length = n) {F' : St} (hw : F.write (F.ev p) (F.ev x).cells = some F') :
    ∃ w', (execOp a.eval o).run P w = .ok .skip w' ∧ Inv E0 w0 Z G F' a w' := by
  have hxo := opd h x
  have hxr := opd_R1 hxo (storable_free hs)
  have hPW := cells_R1 hxr hs
  have hxl : (a.eval x).cells.size = n := by rw [hPW.1, hl]
  have hone := PW_storable hxr hs
  have hp := opd h p
  generalize hpv : F.ev p = pv at *
  cases pv <;> simp only [St.write] at hw <;> first | (cases hw; done) | skip
  · -- a box
    rename_i g tt off
    split at hw
    · rename_i g' row hrow
      split at hw
      · rename_i hc
        obtain ⟨rfl, hfit⟩ := hc
        have := Option.some.inj hw; subst this
        obtain ⟨b, vs, hB, hb0, hu, ⟨⟨ty, hheap⟩, hsz, hpl, hR, hS⟩, hcl⟩ := h.box tt g row hrow
        obtain ⟨b', hb', hpa⟩ := hp.rv
        rw [hB] at hb'
        have := Option.some.inj hb'; subst this
        obtain ⟨w', vs', e1, e2, e3, e4⟩ := store_run (P := P) ho hn hpa hxl hone hheap (by rw [hsz]; omega)
        refine ⟨w', e1, ?_⟩
        have hnew := splice_PW (G := G) hsz hpl hR hPW hfit e3 e4
        have hdis : ∀ i gg cs, F.t i = .box gg cs → i ≠ tt → ∀ (b' : Nat) (vs' : Array Value), G.B gg = some b' → G.u b' = some (.slot i) → b' ≠ b := by
          rintro i gg cs hi hne b' vs' h1 h2 rfl
          rw [hu] at h2
          injection h2 with h2
          injection h2 with h2
          exact hne h2.symm
        exact {
          nsz := h.nsz
          df := h.df
          slot := fun i => by
            simp only [upd_apply]
            split
            · rename_i hi
              subst hi
              have := h.slot i
              rw [hrow] at this
              exact this
            · exact h.slot i
          cl := fun i hb' => by
            simp only [upd_apply] at hb' ⊢
            split
            · rename_i hi; exact absurd (by rw [if_pos hi]) (hb' g (splice row off (F.ev x).cells))
            · rename_i hi; exact h.cl i (by simpa only [hi, if_false] using hb')
          ids := fun i m => by
            simp only [upd_apply]
            split
            · rename_i hi
              rintro ⟨y, hy, rows, nl, rfl⟩
              simp only [parts, splice, List.mem_append] at hy
              rcases hy with (hy | hy) | hy
              · exact h.ids tt m ⟨_, by rw [hrow]; exact List.mem_of_mem_take hy, rows, nl, rfl⟩
              · refine hxo.ids m ⟨.slice rows nl (.id m), ?_, rows, nl, rfl⟩
                unfold AV.cells at hy
                split at hy
                · rename_i cs he; rw [he]; exact hy
                · rename_i he
                  simp only [List.mem_singleton] at hy
                  rw [← hy]
                  simp [parts]
              · exact h.ids tt m ⟨_, by rw [hrow]; exact List.mem_of_mem_drop hy, rows, nl, rfl⟩
            · exact h.ids i m
          mem := e2.mem h.mem hS
          bel := e2.bel (hb0.imp id (·.2)) h.bel
          rel := h.rel
          box := fun i gg cs hi => by
            simp only [upd_apply] at hi
            split at hi
            · rename_i hit
              subst hit
              cases hi
              refine ⟨b, vs', hB, hb0, hu, ⟨⟨ty, e2.at_⟩, hnew.1, hnew.2.1, hnew.2.2, hS⟩, ?_⟩
              intro j y u hy hyu
              rw [splice_get _ _ _ hfit] at hy
              rw [e4, hPW.1] at hyu
              split at hy
              · rename_i h1
                rw [if_pos h1] at hyu
                have hcx := hxo.cl (j - off) y u
                unfold AV.cells at hy
                split at hy
                · rename_i cs he
                  rw [he] at hcx
                  generalize a.eval x = v at *
                  rw [he] at hxr
                  cases hxr
                  exact hcx hy (by simpa [vparts, Value.cells] using hyu)
                · rename_i hna
                  have hpy : (F.ev x).plain = true := by
                    have := hPW.2.1 (F.ev x) (by unfold AV.cells; split <;> first | (rename_i he; exact absurd he (hna _)) | simp)
                    exact this
                  have hv1 := R1.one hxr hpy
                  have hvp : vparts (a.eval x) = [a.eval x] ∧ (a.eval x).cells = #[a.eval x] := by
                    generalize a.eval x = v at *
                    cases v <;> first | exact ⟨rfl, rfl⟩ | cases hv1
                  rw [hvp.2] at hyu
                  rw [plain_parts hpy, hvp.1] at hcx
                  exact hcx hy (by simpa using hyu)
              · rename_i h1
                rw [if_neg h1] at hyu
                exact hcl j y u hy hyu
            · rename_i hit
              obtain ⟨b', vs2, q1, q2, q3, q4, q5⟩ := h.box i gg cs hi
              have hne := hdis i gg cs hi hit b' vs2 q1 q3
              exact ⟨b', vs2, q1, q2, q3, q4.other e2 hne, q5⟩
          row := fun m ha => by
            obtain ⟨q1, q2, ⟨vs2, ty2, q3, q3'⟩, q4, q5⟩ := h.row m ha
            have hne : (G.ρ m).b ≠ b := by
              intro hh
              rw [hh, hu] at q2
              injection q2 with q2
              cases q2
            exact ⟨q1, q2, ⟨vs2, ty2, (e2.other _ hne).trans q3, q3'⟩, q4, q5⟩
          obj := fun l cs hlc => by
            obtain ⟨b', vs2, q1, q2, q3, q4⟩ := h.obj l cs hlc
            have hne : b' ≠ b := by
              rintro rfl
              rw [hu] at q3
              injection q3 with q3
              cases q3
            exact ⟨b', vs2, q1, q2, q3, q4.other e2 hne⟩
          zB := h.zB
          zal := h.zal
          live := fun b' hb' => by rw [e2.size]; exact h.live b' hb'
          pro := fun b' o hb' => by
            obtain ⟨p1, p2, p3⟩ := h.pro b' o hb'
            have hne : b' ≠ b := by
              rintro rfl
              rw [hu] at p2
              cases p2
            exact ⟨(e2.other b' hne).trans p1, p2, p3⟩
          bm := h.bm }
      · cases hw
    · cases hw
  · -- the heap
    rename_i l off
    split at hw
    · rename_i row hrow
      split at hw
      · rename_i hfit
        have := Option.some.inj hw; subst this
        obtain ⟨b, vs, hE, hb0, hu, ⟨⟨ty, hheap⟩, hsz, hpl, hR, hS⟩⟩ := h.obj l row hrow
        have hpr : R1 G.S G.E (.hp l off) (a.eval p) := hp.rv
        have hpa : a.eval p = .pointer (some ⟨b, off, none⟩) := by
          generalize a.eval p = v at *
          cases hpr with
          | hp _ _ b' hb' => rw [hE] at hb'; rw [Option.some.inj hb']
        obtain ⟨w', vs', e1, e2, e3, e4⟩ := store_run (P := P) ho hn hpa hxl hone hheap (by rw [hsz]; omega)
        refine ⟨w', e1, ?_⟩
        have hnew := splice_PW (G := G) hsz hpl hR hPW.strip (by simpa using hfit) e3 e4
        have hll : l < F.H.length := (List.getElem?_eq_some_iff.1 hrow).1
        exact {
          nsz := h.nsz
          df := h.df
          slot := h.slot
          cl := h.cl
          ids := h.ids
          mem := e2.mem h.mem hS
          bel := e2.bel hb0 h.bel
          rel := ⟨h.rel.1, h.rel.2.1, h.rel.2.2.1, h.rel.2.2.2.1, fun l b hb => by simpa using h.rel.2.2.2.2 l b hb⟩
          box := fun i gg cs hi => by
            obtain ⟨b', vs2, q1, q2, q3, q4, q5⟩ := h.box i gg cs hi
            have hne : b' ≠ b := by
              rintro rfl
              rw [hu] at q3
              injection q3 with q3
              cases q3
            exact ⟨b', vs2, q1, q2, q3, q4.other e2 hne, q5⟩
          row := fun m ha => by
            obtain ⟨q1, q2, ⟨vs2, ty2, q3, q3'⟩, q4, q5⟩ := h.row m ha
            have hne : (G.ρ m).b ≠ b := by
              intro hh
              rw [hh, hu] at q2
              injection q2 with q2
              cases q2
            exact ⟨q1, q2, ⟨vs2, ty2, (e2.other _ hne).trans q3, q3'⟩, q4, q5⟩
          obj := fun l' cs hlc => by
            by_cases hl' : l' = l
            · subst hl'
              rw [List.getElem?_set_self hll] at hlc
              have := Option.some.inj hlc; subst this
              exact ⟨b, vs', hE, hb0, hu, ⟨⟨ty, e2.at_⟩, hnew.1, hnew.2.1, hnew.2.2, hS⟩⟩
            · rw [List.getElem?_set_ne (Ne.symm hl')] at hlc
              obtain ⟨b', vs2, q1, q2, q3, q4⟩ := h.obj l' cs hlc
              have hne : b' ≠ b := by
                rintro rfl
                rw [hu] at q3
                injection q3 with q3
                injection q3 with q3
                exact hl' q3.symm
              exact ⟨b', vs2, q1, q2, q3, q4.other e2 hne⟩
          zB := h.zB
          zal := h.zal
          live := fun b' hb' => by rw [e2.size]; exact h.live b' hb'
          pro := fun b' o hb' => by
            obtain ⟨p1, p2, p3⟩ := h.pro b' o hb'
            have hne : b' ≠ b := by
              rintro rfl
              rw [hu] at p2
              cases p2
            exact ⟨(e2.other b' hne).trans p1, p2, p3⟩
          bm := h.bm }
      · cases hw
    · cases hw
end
end Go.Proofs.V
namespace Go.Proofs.V
open Go Go.RowKit
set_option linter.unusedVariables false
set_option linter.unusedSimpArgs false
theorem growBy_le (n : Nat) : ∀ (r c : Nat), 256 ≤ c → c ≤ 2 * n → 256 ≤ n → Builtin.growBy n r c ≤ 2 * n
  | 0, c, _, h, _ => h
  | r + 1, c, h1, h2, h3 => by
    unfold Builtin.growBy
    split
    · exact h2
    · exact growBy_le n r _ (by omega) (by omega) h3
theorem next_le (n old : Nat) (h : old < n) : Builtin.nextslicecap n old ≤ 2 * n := by
  unfold Builtin.nextslicecap
  split
  · omega
  · split
    · omega
    · exact growBy_le n 4 old (by omega) (by omega) (by omega)

section
variable {E0 : Nat → Prop} {w0 : Ent} {Z : Nat → Prop} {G : Gh} {F : St} {a : Act} {w : World} {P : Program} {lab d : Nat}
/-- Cells of a slice, as they are loaded. -/
theorem load_rows {rows : List (List AV)} {sz b off : Nat} {val : Nat → Nat → Value} (hm : Mem G.S w) (hsz : ∀ r ∈ rows, r.length = sz) (hpos : 0 < sz) (hpl : ∀ i j x, cellAt rows i j = some x → x.plain = true)
    (hS : ∀ i j x, cellAt rows i j = some x → G.S ⟨b, off + (i * sz + j), none⟩ = some (val i j)) (hR : ∀ i j x, cellAt rows i j = some x → R1 G.S G.E x (val i j)) :
    ∃ us : Array Value, (loadCells ⟨b, off, none⟩ (rows.length * sz)).run P w = .ok us w ∧ RW G sz rows us := by
  have hcell : ∀ k, k < rows.length * sz → ∃ x, cellAt rows (k / sz) (k % sz) = some x := by
    intro k hk
    have h1 : k / sz < rows.length := Nat.div_lt_of_lt_mul (by rw [Nat.mul_comm]; exact hk)
    have h2 : k % sz < sz := Nat.mod_lt _ hpos
    refine ⟨(rows[k / sz])[k % sz]'(by rw [hsz _ (List.getElem_mem h1)]; exact h2), ?_⟩
    simp [cellAt, h1]
  refine ⟨((List.range (rows.length * sz)).map fun k => val (k / sz) (k % sz)).toArray, ?_, ?_⟩
  · refine run_loadCells w ⟨b, off, none⟩ (rows.length * sz) (fun k => val (k / sz) (k % sz)) (fun k hk => ?_)
    obtain ⟨x, hx⟩ := hcell k hk
    rw [add_none]
    have := hm _ _ (hS _ _ x hx)
    have e : k / sz * sz + k % sz = k := by rw [Nat.mul_comm]; exact Nat.div_add_mod k sz
    rw [e] at this
    exact this
  · refine ⟨by simp, hsz, hpl, fun i j x hx => ?_⟩
    have hlt := cellAt_lt hx hsz
    have hidx : i * sz + j < rows.length * sz := by
      have : (i + 1) * sz ≤ rows.length * sz := Nat.mul_le_mul_right _ hlt.1
      rw [Nat.add_mul] at this; omega
    refine ⟨val i j, ?_, hR i j x hx⟩
    have e1 : (i * sz + j) / sz = i := by
      rw [Nat.mul_comm, Nat.mul_add_div hpos, Nat.div_eq_of_lt hlt.2]; rfl
    have e2 : (i * sz + j) % sz = j := by rw [Nat.mul_comm, Nat.mul_add_mod, Nat.mod_eq_of_lt hlt.2]
    simp [hidx, e1, e2]

theorem rowsOf_cell {cells : List AV} {off len sz : Nat} {ys : List (List AV)} (h : rowsOf cells off len sz = some ys) : off + len * sz ≤ cells.length ∧ ys.length = len ∧ (∀ r ∈ ys, r.length = sz) ∧ ∀ i j x, cellAt ys i j = some x → i < len ∧ j < sz ∧ cells[off + (i * sz + j)]? = some x := by
  unfold rowsOf at h
  split at h
  · rename_i hle
    have := Option.some.inj h; subst this
    have hrow : ∀ i, i < len → ((cells.drop (off + i * sz)).take sz).length = sz := by
      intro i hi
      have : (i + 1) * sz ≤ len * sz := Nat.mul_le_mul_right _ hi
      rw [Nat.add_mul] at this
      simp; omega
    refine ⟨hle, by simp, fun r hr => ?_, fun i j x hx => ?_⟩
    · obtain ⟨i, hi, rfl⟩ := List.mem_map.1 hr
      exact hrow i (List.mem_range.1 hi)
    · unfold cellAt at hx
      obtain ⟨r, e1, e2⟩ := Option.bind_eq_some_iff.1 hx
      rw [List.getElem?_map] at e1
      simp only [Option.map_eq_some_iff] at e1
      obtain ⟨k, hk, rfl⟩ := e1
      have hik : i < len ∧ k = i := by
        have hlt : i < len := by
          have := (List.getElem?_eq_some_iff.1 hk).1
          simpa using this
        rw [List.getElem?_range hlt] at hk
        cases hk
        exact ⟨hlt, rfl⟩
      obtain ⟨hi, rfl⟩ := hik
      have hj : j < sz := by rw [← hrow k hi]; exact (List.getElem?_eq_some_iff.1 e2).1
      refine ⟨hi, hj, ?_⟩
      rw [List.getElem?_take, if_pos hj, List.getElem?_drop, Nat.add_assoc] at e2
      exact e2
  · cases h

/-- What is appended, as it is loaded. -/
theorem src_rows (h : Inv E0 w0 Z G F a w) {x : Operand} {xt : Option TypeId} {ys : List (List AV)} {sz : Nat} (hsrc : srcRows P F xt (F.ev x) = some ys) (hsz : ∀ r ∈ ys, r.length = sz) (hpos : 0 < sz) :
    (Builtin.lenOf (a.eval x)).run P w = .ok ys.length w ∧ (∃ us, (Builtin.firstCells sz ys.length (a.eval x)).run P w = .ok us w ∧ RW G sz ys us) ∧ ∃ t, xt = some t ∧ (P.underlying t = some .string ∨ ∃ e, P.underlying t = some (.slice e)) := by
  have hxr := (opd h x).rv
  generalize hv : a.eval x = v at *
  unfold srcRows at hsrc
  split at hsrc
  · rename_i loc off len cap sz' hx
    split at hsrc
    · rename_i hxt
      obtain ⟨cells, hcells, hrows⟩ := Option.bind_eq_some_iff.1 hsrc
      rw [hx] at hxr
      have hxr : R1 G.S G.E (.hs loc off len cap sz') v := hxr
      obtain ⟨e, he⟩ := Option.isSome_iff_exists.1 hxt
      obtain ⟨t, ht, he⟩ := Option.bind_eq_some_iff.1 he
      obtain ⟨q1, q2, q3, q4⟩ := rowsOf_cell hrows
      obtain ⟨b', vs, g1, _, _, ⟨⟨ty, hheap⟩, hvs, hpl, hR, _⟩⟩ := h.obj loc cells hcells
      cases hxr with
      | hs _ _ _ _ _ b hb =>
        have hbb : b' = b := by rw [hb] at g1; exact (Option.some.inj g1).symm
        subst hbb
        refine ⟨by simp [Builtin.lenOf, q2], ?_, t, ht, .inr ⟨e, tel_und he⟩⟩
        cases hys : ys with
        | nil => exact ⟨#[], by simp [Builtin.firstCells, loadCells, loadCellsFrom], by simp, by simp, by intro i j x h; simp [cellAt] at h, by intro i j x h; simp [cellAt] at h⟩
        | cons r rs =>
          have hss : sz' = sz := by rw [← q3 r (by rw [hys]; simp), hsz r (by rw [hys]; simp)]
          subst hss
          rw [← hys]
          refine ⟨((List.range (ys.length * sz')).map fun k => vs.getD (off + k) Go.undef).toArray, ?_, by simp, q3, fun i j x hx => ?_, fun i j x hx => ?_⟩
          · refine run_loadCells w ⟨b', off, none⟩ (ys.length * sz') (fun k => vs.getD (off + k) Go.undef) (fun k hk => ?_)
            rw [add_none]
            rw [q2] at hk
            have : off + k < vs.size := by rw [hvs]; omega
            simp [World.cell?, hheap, Array.getD, this]
          · exact hpl x (List.mem_of_getElem? (q4 i j x hx).2.2)
          · obtain ⟨k1, k2, k3⟩ := q4 i j x hx
            have hidx : i * sz' + j < ys.length * sz' := by
              have : (i + 1) * sz' ≤ len * sz' := Nat.mul_le_mul_right _ k1
              rw [Nat.add_mul] at this; rw [q2]; omega
            refine ⟨vs.getD (off + (i * sz' + j)) Go.undef, by simp [hidx], ?_⟩
            have hlt : off + (i * sz' + j) < vs.size := by rw [hvs]; exact (List.getElem?_eq_some_iff.1 k3).1
            exact hR _ _ _ k3 (by simp [Array.getD, hlt])
    · cases hsrc
  · rename_i rows nl own hx
    split at hsrc
    · rename_i hxt
      have := Option.some.inj hsrc; subst this
      rw [hx] at hxr
      have hxr : R1 G.S G.E (.slice rows nl own) v := hxr
      obtain ⟨e, he⟩ := Option.isSome_iff_exists.1 hxt
      obtain ⟨t, ht, he⟩ := Option.bind_eq_some_iff.1 he
      refine ⟨?_, ?_, t, ht, .inr ⟨e, tel_und he⟩⟩
      · cases hxr <;> rfl
      · cases hxr with
        | nil => exact ⟨#[], rfl, by simp, by simp, by intro i j x h; simp [cellAt] at h, by intro i j x h; simp [cellAt] at h⟩
        | slice _ _ b off cap sz' val hlen hall hfull hpl h1 h2 =>
          cases rows with
          | nil => exact ⟨#[], by simp [Builtin.firstCells, loadCells, loadCellsFrom], by simp, by simp, by intro i j x h; simp [cellAt] at h, by intro i j x h; simp [cellAt] at h⟩
          | cons r rs =>
            have hss : sz' = sz := by rw [← hall r (List.mem_cons_self ..), hsz r (List.mem_cons_self ..)]
            subst hss
            exact load_rows h.mem hsz hpos hpl h1 h2
    · cases hsrc
  · rename_i b hx
    split at hsrc
    · rename_i hxt
      have := Option.some.inj hsrc; subst this
      rw [hx] at hxr
      have hxr : R1 G.S G.E (.at (.string b)) v := hxr
      cases hxr
      simp only [Option.map_eq_some_iff] at hxt
      obtain ⟨t, ht, hst⟩ := hxt
      have hbl : b.data.toList.length = b.size := Array.length_toList (xs := b.data)
      refine ⟨?_, ?_, t, ht, .inl (isStr_und hst)⟩
      · simp [Builtin.lenOf]
      · have hex : (b.extract 0 b.size) = b := by
          have : (b.extract 0 b.size).data.toList = b.data.toList := by simp
          cases hq : b.extract 0 b.size with
          | mk dd =>
            rw [hq] at this
            cases b
            congr 1
            exact Array.ext' this
        refine ⟨b.data.map fun c => .int .u8 c.toNat, ?_, ?_⟩
        · simp only [Builtin.firstCells, List.length_map, hbl, hex, Sem.run_pure]
        · have hsz1 : b.data.toList ≠ [] → sz = 1 := by
            intro hne
            obtain ⟨c, hc⟩ := List.exists_mem_of_ne_nil _ hne
            exact (hsz (rowOfByte c) (List.mem_map.2 ⟨c, hc, rfl⟩)).symm
          have hcell : ∀ i j x, cellAt (b.data.toList.map rowOfByte) i j = some x → j = 0 ∧ ∃ c, b.data.toList[i]? = some c ∧ x = .at (.int .u8 c.toNat) := by
            intro i j x hx
            unfold cellAt at hx
            obtain ⟨r, e1, e2⟩ := Option.bind_eq_some_iff.1 hx
            rw [List.getElem?_map] at e1
            simp only [Option.map_eq_some_iff] at e1
            obtain ⟨c, hc, rfl⟩ := e1
            unfold rowOfByte at e2
            cases j with
            | zero => simp at e2; exact ⟨rfl, c, hc, e2.symm⟩
            | succ j => simp at e2
          refine ⟨?_, hsz, fun i j x hx => ?_, fun i j x hx => ?_⟩
          · by_cases hne : b.data.toList = []
            · have : b.data = #[] := by simpa using hne
              simp [this]
            · rw [hsz1 hne]; simp
          · obtain ⟨_, c, _, rfl⟩ := hcell i j x hx; rfl
          · obtain ⟨rfl, c, hc, rfl⟩ := hcell i j x hx
            have hne : b.data.toList ≠ [] := fun h0 => by rw [h0] at hc; simp at hc
            rw [hsz1 hne]
            have hc' : b.data[i]? = some c := by simpa using hc
            exact ⟨.int .u8 c.toNat, by simp [hc'], .at _⟩
    · cases hsrc
  · cases hsrc

theorem RW.append {sz : Nat} {xs ys : List (List AV)} {us vs : Array Value} (h1 : RW G sz xs us) (h2 : RW G sz ys vs) : RW G sz (xs ++ ys) (us ++ vs) := by
  have hcell : ∀ i j x, cellAt (xs ++ ys) i j = some x → (i < xs.length ∧ cellAt xs i j = some x) ∨ (xs.length ≤ i ∧ cellAt ys (i - xs.length) j = some x) := by
    intro i j x hx
    unfold cellAt at *
    by_cases hi : i < xs.length
    · rw [List.getElem?_append_left hi] at hx; exact .inl ⟨hi, hx⟩
    · rw [List.getElem?_append_right (by omega)] at hx; exact .inr ⟨by omega, hx⟩
  refine ⟨by simp [h1.1, h2.1, Nat.add_mul], ?_, ?_, ?_⟩
  · intro r hr
    rcases List.mem_append.1 hr with hr | hr
    · exact h1.2.1 r hr
    · exact h2.2.1 r hr
  · intro i j x hx
    rcases hcell i j x hx with ⟨_, hx⟩ | ⟨_, hx⟩
    · exact h1.2.2.1 _ _ _ hx
    · exact h2.2.2.1 _ _ _ hx
  · intro i j x hx
    rcases hcell i j x hx with ⟨hi, hx⟩ | ⟨hi, hx⟩
    · obtain ⟨v, e1, e2⟩ := h1.2.2.2 _ _ _ hx
      have hlt : i * sz + j < us.size := (Array.getElem?_eq_some_iff.1 e1).1
      exact ⟨v, by rw [Array.getElem?_append_left hlt]; exact e1, e2⟩
    · obtain ⟨v, e1, e2⟩ := h2.2.2.2 _ _ _ hx
      have hge : us.size ≤ i * sz + j := by
        rw [h1.1]
        have : xs.length * sz ≤ i * sz := Nat.mul_le_mul_right _ hi
        omega
      refine ⟨v, ?_, e2⟩
      rw [Array.getElem?_append_right hge, h1.1, show i * sz + j - xs.length * sz = (i - xs.length) * sz + j by
        rw [Nat.sub_mul]
        have : xs.length * sz ≤ i * sz := Nat.mul_le_mul_right _ hi
        omega]
      exact e1

/-- A slice that is grown takes the place of its elder. -/
theorem inv_grown (h : Inv E0 w0 Z G F a w) (hz : ∀ n, Z1 lab n → ¬ Z n) (hd : d < F.n) {G' : Gh} {w' : World} {b : Nat} {al' : Nat → Bool} {rows : List (List AV)} {v : Value}
    (hS : ∀ ad v, G.S ad = some v → G'.S ad = some v) (hm : Mem G'.S w') (hB : G'.B = G.B) (hE : G'.E = G.E) (hbel : Bel E0 w0 w') (hbb : w0.heap.size ≤ b) (hρ : ∀ m, m ≠ lab → G'.ρ m = G.ρ m)
    (hheap : ∀ k, k < w.heap.size → k ≠ b → w'.heap[k]? = w.heap[k]?) (hSn : ∀ ad : Addr, ad.block < w.heap.size → ad.block ≠ b → G.S ad = none → G'.S ad = none) (hu : ∀ k, k ≠ b → G'.u k = G.u k) (hub : G'.u b = some (.row lab))
    (hal : ∀ m, al' m = true → m = lab ∨ (F.al m = true ∧ (G.ρ m).b ≠ b)) (hbo : w.heap.size ≤ b ∨ ∃ n, G.u b = some (.row n))
    (hrow : w0.heap.size ≤ (G'.ρ lab).b ∧ G'.u (G'.ρ lab).b = some (.row lab) ∧ (∃ vs ty, w'.heap[(G'.ρ lab).b]? = some (.cells vs ty (0, 0)) ∧ vs.size = (G'.ρ lab).cap * (G'.ρ lab).sz) ∧ (0 < (G'.ρ lab).len ∧ (G'.ρ lab).len ≤ (G'.ρ lab).cap) ∧ ∀ o, (G'.ρ lab).len * (G'.ρ lab).sz ≤ o → G'.S ⟨(G'.ρ lab).b, o, none⟩ = none)
    (hlive : ∀ k, (G'.u k).isSome = true → k < w'.heap.size) (hx : R1 G'.S G'.E (.slice rows false (.id lab)) v)
    (hv : v = .slice (some ⟨(G'.ρ lab).b, 0, none⟩) rows.length (G'.ρ lab).cap ∧ rows.length = (G'.ρ lab).len ∧ ∀ r ∈ rows, r.length = (G'.ρ lab).sz) :
    Inv E0 w0 (fun n => Z n ∨ Z1 lab n) G' { F with t := upd F.t d (.slice rows false (.id lab)), al := al' } (a.put (some d) v) w' := by
  have hl : Z1 lab lab := ⟨Nat.le_refl _, by omega⟩
  have hR : ∀ {x : AV} {v : Value}, R1 G.S G.E x v → R1 G'.S G'.E x v := fun hr => R1.mono hS (fun l b hb => by rw [hE]; exact hb) hr
  have hRV : ∀ {x : AV} {v : Value}, RV G x v → RV G' x v := by
    intro x v hr
    cases x with
    | fp p q r => obtain ⟨k, h1, h2⟩ := hr; exact ⟨k, by rw [hB]; exact h1, h2⟩
    | box p q => obtain ⟨k, h1, h2⟩ := hr; exact ⟨k, by rw [hB]; exact h1, h2⟩
    | _ => exact hR hr
  have hCl1 : ∀ {y : AV} {u : Value}, (∀ rows nl, y ≠ .slice rows nl (.id lab)) → Cl1 G F.al y u → Cl1 G' al' y u := by
    intro y u hne hc rows nl n he ha
    rcases hal n ha with rfl | ⟨h1, h2⟩
    · exact absurd he (hne rows nl)
    · have hnl : n ≠ lab := fun e => hz lab hl (e ▸ h.zal n h1)
      rw [hρ n hnl]
      exact hc rows nl n he h1
  have hother : ∀ {b' : Nat} {tg : Tg}, G.u b' = some tg → (∀ n, tg ≠ .row n) → b' ≠ b := by
    rintro b' tg h1 h2 rfl
    rcases hbo with h3 | ⟨n, h3⟩
    · have := h.live b' (by rw [h1]; rfl); omega
    · rw [h1] at h3; exact h2 n (Option.some.inj h3)
  have hHolds : ∀ {b' : Nat} {cs : List AV} {vs : Array Value}, b' < w.heap.size → b' ≠ b → Holds1 G w b' cs vs → Holds1 G' w' b' cs vs := by
    rintro b' cs vs hlt hne ⟨⟨ty, q1⟩, q2, q3, q4, q5⟩
    exact ⟨⟨ty, (hheap b' hlt hne).trans q1⟩, q2, q3, fun j x v hx hv => hR (q4 j x v hx hv), fun ad ha => hSn ad (by rw [ha]; exact hlt) (by rw [ha]; exact hne) (q5 ad ha)⟩
  exact {
    nsz := by simp [Act.put]; exact h.nsz
    df := by simp [Act.put]; exact h.df
    slot := fun i => by
      rw [getD_put (by rw [h.nsz]; exact hd)]
      simp only [upd_apply]
      split
      · exact hx
      · exact hRV (h.slot i)
    cl := fun i hb' => by
      rw [getD_put (by rw [h.nsz]; exact hd)]
      simp only [upd_apply] at hb' ⊢
      split
      · intro j y u hy hu'
        have hvp : vparts v = [v] := by rw [hv.1]; rfl
        rw [hvp] at hu'
        cases j with
        | succ j => simp [parts] at hy
        | zero =>
          simp [parts] at hy hu'
          subst hy; subst hu'
          intro rows' nl n he ha
          cases he
          exact ⟨hv.1, rfl, hv.2.1, hv.2.2⟩
      · rename_i hi
        intro j y u hy hu'
        refine hCl1 ?_ (h.cl i (by simpa only [hi, if_false] using hb') j y u hy hu')
        rintro rows nl rfl
        exact hz lab hl (h.ids i lab ⟨_, List.mem_of_getElem? hy, rows, nl, rfl⟩)
    ids := fun i m => by
      simp only [upd_apply]
      split
      · rintro ⟨y, hy, rows', nl, rfl⟩
        simp [parts] at hy
        rw [hy.2.2]
        exact .inr hl
      · exact fun hi => .inl (h.ids i m hi)
    mem := hm
    bel := hbel
    rel := ⟨fun ad v hv => hS _ _ (h.rel.1 ad v hv), fun ad h0 hb he => hSn ad (Nat.lt_of_lt_of_le hb h.bel.size) (by omega) (h.rel.2.1 ad h0 hb he), fun l b hb => by rw [hE]; exact h.rel.2.2.1 l b hb, fun l b h0 hb => h.rel.2.2.2.1 l b h0 (by rw [← hE]; exact hb), fun l b hb => h.rel.2.2.2.2 l b (by rw [← hE]; exact hb)⟩
    box := fun i gg cs hi => by
      simp only [upd_apply] at hi
      split at hi
      · cases hi
      · obtain ⟨b', vs, q1, q2, q3, q4, q5⟩ := h.box i gg cs hi
        have hne := hother q3 (by intro n hn; cases hn)
        have hlt := h.live b' (by rw [q3]; rfl)
        refine ⟨b', vs, by rw [hB]; exact q1, q2, (hu b' hne).trans q3, hHolds hlt hne q4, fun j x v hx hv => hCl1 ?_ (q5 j x v hx hv)⟩
        rintro rows nl rfl
        exact hz lab hl (h.ids i lab ⟨_, by rw [hi]; exact List.mem_of_getElem? hx, rows, nl, rfl⟩)
    row := fun m ha => by
      rcases hal m ha with rfl | ⟨h1, h2⟩
      · exact hrow
      · have hnl : m ≠ lab := fun e => hz lab hl (e ▸ h.zal m h1)
        rw [hρ m hnl]
        obtain ⟨q1, q2, ⟨vs, ty, q3, q3'⟩, q4, q5⟩ := h.row m h1
        have hlt := h.live _ (by rw [q2]; rfl)
        exact ⟨q1, (hu _ h2).trans q2, ⟨vs, ty, (hheap _ hlt h2).trans q3, q3'⟩, q4, fun o ho => hSn _ hlt h2 (q5 o ho)⟩
    obj := fun l cs hlc => by
      obtain ⟨b', vs, q1, q2, q3, q4⟩ := h.obj l cs hlc
      have hne := hother q3 (by intro n hn; cases hn)
      have hlt := h.live b' (by rw [q3]; rfl)
      exact ⟨b', vs, by rw [hE]; exact q1, q2, (hu b' hne).trans q3, hHolds hlt hne q4⟩
    zB := fun g b' hb' => .inl (h.zB g b' (by rw [← hB]; exact hb'))
    zal := fun m ha => by
      rcases hal m ha with rfl | ⟨h1, _⟩
      · exact .inr hl
      · exact .inl (h.zal m h1)
    live := hlive
    pro := fun b' o hb' => by
      obtain ⟨p1, p2, p3⟩ := h.pro b' o hb'
      have hlt := (Array.getElem?_eq_some_iff.1 p1).1
      have hne : b' ≠ b := by
        rintro rfl
        rcases hbo with h3 | ⟨n, h3⟩
        · omega
        · rw [p2] at h3; cases h3
      exact ⟨(hheap b' hlt hne).trans p1, (hu b' hne).trans p2, fun hf ad ha => hSn ad (by rw [ha]; exact hlt) (by rw [ha]; exact hne) (p3 hf ad ha)⟩
    bm := fun gg b' hb' => by rw [hB]; exact h.bm gg b' hb' }
end
end Go.Proofs.V
namespace Go.Proofs.V
open Go Go.RowKit
set_option linter.unusedVariables false
set_option linter.unusedSimpArgs false
section
variable {E0 : Nat → Prop} {w0 : Ent} {Z : Nat → Prop} {G : Gh} {F : St} {a : Act} {w : World} {P : Program} {lab d : Nat}
/-- The operation, down to the builtin. -/
theorem append_op {o : Oper} {s x : Operand} {ts : Array TypeId} (ho : o.op = .call { callee := .builtin .append, args := #[s, x], argTypes := ts }) {r : Value} {w' : World}
    (h : (Builtin.append_ ts o.type #[a.eval s, a.eval x]).run P w = .ok r w') : (execOp a.eval o).run P w = .ok (.value r) w' := by
  simp [execOp, ho, resolve, invoke, builtin, Sem.run_bind, h]

/-- The builtin, where the room serves. -/
theorem append_room {ts : Array TypeId} {type t xt e : TypeId} {base : Option Addr} {len cap sz n : Nat} {xv : Value} {us : Array Value} {w' : World} (h0 : ts[0]? = some t) (h1 : ts[1]? = some xt) (he : P.underlying t = some (.slice e)) (hsz : tsz P e = some sz)
    (hxt : P.underlying xt = some .string ∨ ∃ e, P.underlying xt = some (.slice e)) (hlen : (Builtin.lenOf xv).run P w = .ok n w) (hcells : (Builtin.firstCells sz n xv).run P w = .ok us w) (hroom : len + n ≤ cap)
    (hst : ∀ a, base = some a → (storeCells (a.add (len * sz)) us.toList).run P w = .ok () w') (hnone : base = none → w' = w) :
    (Builtin.append_ ts type #[.slice base len cap, xv]).run P w = .ok (.slice base (len + n) cap) w' := by
  rcases hxt with hxt | ⟨e', hxt⟩ <;>
  · unfold Builtin.append_
    simp only [h0, h1, List.getElem?_toArray, List.getElem?_cons_zero, List.getElem?_cons_succ, Sem.run_bind, run_underlying he, Result.andThen_ok, run_tsz hsz]
    simp only [run_underlying hxt, Result.andThen_ok, Sem.run_pure, Sem.run_bind, Bool.false_eq_true, if_false, hlen]
    rw [if_pos hroom]
    simp only [Sem.run_bind, Bool.not_false, if_true, hcells, Result.andThen_ok]
    cases base with
    | none => rw [hnone rfl]; rfl
    | some ad => simp only [hst ad rfl, Result.andThen_ok, Sem.run_pure, Sem.run_bind]

theorem run_cap (need old : Nat) (e : TypeId) (w : World) : ∃ c, need ≤ c ∧ (choose (.appendCap need old e)).run P w = .ok c w.drew :=
  ⟨(Question.appendCap need old e).cut (w.tape w.drawn (.appendCap need old e)), Nat.le_add_right _ _, by rw [run_choose]; exact if_neg (by intro h; cases h)⟩

/-- The builtin, where it grows. -/
theorem append_grow {ts : Array TypeId} {type t xt e : TypeId} {base : Option Addr} {len cap sz by_ n : Nat} {xv : Value} {us0 us : Array Value} (h0 : ts[0]? = some t) (h1 : ts[1]? = some xt) (he : P.underlying t = some (.slice e)) (hsz : tsz P e = some sz) (hby : tby P e = some by_)
    (hxt : P.underlying xt = some .string ∨ ∃ e, P.underlying xt = some (.slice e)) (hlen : (Builtin.lenOf xv).run P w = .ok n w) (hcells : ∀ w' : World, w' = w.drew → (Builtin.firstCells sz n xv).run P w' = .ok us w') (hold : ∀ w' : World, w' = w.drew → (Builtin.firstCells sz len (.slice base len cap)).run P w' = .ok us0 w') (hroom : ¬ len + n ≤ cap)
    (hb : (len + n) * by_ ≤ 35184372088832) (hm : len + n ≤ 4611686018427387904) (hby0 : 0 < by_) {i : TypeInfo} {z : Value} (hi : P.info? e = some i) (hz : i.zero = some z) (hzl : z.cells.size = sz) :
    ∃ c rest, len + n ≤ c ∧ rest.size = (c - (len + n)) * sz ∧ (Builtin.append_ ts type #[.slice base len cap, xv]).run P w = .ok (.slice (some ⟨w.heap.size, 0, none⟩) (len + n) c) (w.drew.alloc (.cells (us0 ++ us ++ rest) e)) := by
  obtain ⟨c, hc, hrc⟩ := run_cap (P := P) (len + n) cap e w
  refine ⟨c, Builtin.zeroCells z.cells (c - (len + n)), hc, by simp [Builtin.zeroCells, hzl], ?_⟩
  obtain ⟨i', hi', hib⟩ : ∃ i', P.info? e = some i' ∧ i'.bytes = by_ := by unfold tby at hby; simpa [Option.map_eq_some_iff] using hby
  rw [hi] at hi'
  have := Option.some.inj hi'; subst this
  have hti : ∀ w : World, (typeInfo e).run P w = .ok i w := fun w => by simp [typeInfo, Sem.run_bind, hi]
  have hmax : IntKind.i64.max = 9223372036854775807 := by decide
  have hno : ¬ (((len + n : Nat) : Int) > IntKind.i64.max ∧ (false = true ∨ i.bytes = 0)) := by rintro ⟨_, h | h⟩ <;> simp_all
  have hcap : ¬ (Builtin.nextslicecap (len + n) cap * i.bytes > 2 ^ 48) := by
    have := next_le (len + n) cap (by omega)
    have h2 : Builtin.nextslicecap (len + n) cap * i.bytes ≤ 2 * (len + n) * by_ := by rw [hib]; exact Nat.mul_le_mul_right _ this
    have h3 : 2 * (len + n) * by_ = 2 * ((len + n) * by_) := by rw [Nat.mul_assoc]
    omega
  rcases hxt with hxt | ⟨e', hxt⟩ <;>
  · unfold Builtin.append_
    simp only [h0, h1, List.getElem?_toArray, List.getElem?_cons_zero, List.getElem?_cons_succ, Sem.run_bind, run_underlying he, Result.andThen_ok, run_tsz hsz]
    simp only [run_underlying hxt, Result.andThen_ok, Sem.run_pure, Sem.run_bind, Bool.false_eq_true, if_false, hlen]
    rw [if_neg hroom]
    simp only [Sem.run_bind, hti, Result.andThen_ok, false_or, Bool.false_eq_true, if_false]
    rw [if_neg (by simpa using hno)]
    simp only [Sem.run_bind, hti, Result.andThen_ok, Sem.run_pure]
    rw [if_neg hcap]
    simp only [Sem.run_bind, Sem.run_pure, hrc, Result.andThen_ok, hti, run_askRoom, hold _ rfl, Bool.not_false, if_true, hcells _ rfl, run_zero hi hz, newRow, run_newObj]
    rfl

theorem mem_drew {S : Addr → Option Value} (h : Mem S w) : Mem S w.drew := h

theorem tmp_slice {s : Operand} {rows : List (List AV)} {nl : Bool} {n : Nat} (hs : F.ev s = .slice rows nl (.id n)) (h : Inv E0 w0 Z G F a w) (ha : F.al n = true) : a.eval s = .slice (some ⟨(G.ρ n).b, 0, none⟩) rows.length (G.ρ n).cap ∧ nl = false ∧ rows.length = (G.ρ n).len ∧ ∀ r ∈ rows, r.length = (G.ρ n).sz := by
  have ho := opd h s
  rw [hs] at ho
  have hr : R1 G.S G.E (.slice rows nl (.id n)) (a.eval s) := ho.rv
  have hvp : vparts (a.eval s) = [a.eval s] := by
    generalize a.eval s = v at *
    cases hr <;> rfl
  exact ho.cl 0 _ _ rfl (by rw [hvp]; rfl) rows nl n rfl ha

/-- The base of an append: what is loaded of it. -/
theorem base_rows (hm : Mem G.S w) {rows : List (List AV)} {nl : Bool} {own : Own} {v : Value} {sz : Nat} (hr : R1 G.S G.E (.slice rows nl own) v) (hsz : ∀ r ∈ rows, r.length = sz) (hpos : 0 < sz) : ∃ base cap, v = .slice base rows.length cap ∧ rows.length ≤ cap ∧ (∃ us, (Builtin.firstCells sz rows.length v).run P w = .ok us w ∧ RW G sz rows us) := by
  cases hr with
  | nil => exact ⟨none, 0, rfl, Nat.le_refl _, #[], rfl, by simp, by simp, by intro i j x h; simp [cellAt] at h, by intro i j x h; simp [cellAt] at h⟩
  | slice _ _ b off cap sz' val hlen hall hfull hpl h1 h2 =>
    refine ⟨_, _, rfl, hlen, ?_⟩
    cases rows with
    | nil => exact ⟨#[], by simp [Builtin.firstCells, loadCells, loadCellsFrom], by simp, by simp, by intro i j x h; simp [cellAt] at h, by intro i j x h; simp [cellAt] at h⟩
    | cons r rs =>
      have hss : sz' = sz := by rw [← hall r (List.mem_cons_self ..), hsz r (List.mem_cons_self ..)]
      subst hss
      exact load_rows hm hsz hpos hpl h1 h2

/-- A new row whose first cells nobody writes any more, and that may be appended to. -/
theorem grown_new (h : Inv E0 w0 Z G F a w) (hz : ∀ n, Z1 lab n → ¬ Z n) (hd : d < F.n) {rows : List (List AV)} {sz c : Nat} {us rest : Array Value} {e : TypeId} {al' : Nat → Bool} (hRW : RW G sz rows us) (hne : 0 < rows.length) (hc : rows.length ≤ c) (hrest : rest.size = (c - rows.length) * sz)
    (hal : ∀ m, al' m = true → m = lab ∨ F.al m = true) : ∃ G', Inv E0 w0 (fun n => Z n ∨ Z1 lab n) G' { F with t := upd F.t d (.slice rows false (.id lab)), al := al' } (a.put (some d) (.slice (some ⟨w.heap.size, 0, none⟩) rows.length c)) (w.drew.alloc (.cells (us ++ rest) e)) := by
  let G' : Gh := { G with S := fun ad => if ad.block = w.heap.size ∧ ad.spot = none then us[ad.off]? else G.S ad, u := fun k => if k = w.heap.size then some (.row lab) else G.u k, ρ := fun m => if m = lab then ⟨w.heap.size, rows.length, c, sz⟩ else G.ρ m }
  have hnew : (w.drew.alloc (.cells (us ++ rest) e)).heap[w.heap.size]? = some (.cells (us ++ rest) e (0, 0)) := by
    show (w.heap.push _)[w.heap.size]? = _
    simp
  have hS : ∀ ad v, G.S ad = some v → G'.S ad = some v := fun ad v hv => by
    have := h.mem.lt hv
    simp only [G']
    rw [if_neg (by rintro ⟨h1, _⟩; omega)]
    exact hv
  have hρl : G'.ρ lab = ⟨w.heap.size, rows.length, c, sz⟩ := by simp [G']
  have hus : us.size = rows.length * sz := hRW.1
  refine ⟨G', inv_grown (G' := G') (b := w.heap.size) h hz hd hS ?_ rfl rfl ?_ h.bel.size (fun m hm => by simp only [G']; rw [if_neg hm]) (fun k hk _ => Below.heap_alloc w.drew _ k hk) (fun ad h1 h2 h3 => by simp only [G']; rw [if_neg (by rintro ⟨q, _⟩; exact h2 q)]; exact h3) (fun k hk => by simp only [G']; rw [if_neg hk]) (by simp [G']) (fun m hm => ?_) (.inl (Nat.le_refl _)) ?_ (fun k hk => ?_) ?_ ?_⟩
  · intro ad v hv
    simp only [G'] at hv
    split at hv
    · rename_i hb
      obtain ⟨b, o, s⟩ := ad
      obtain ⟨rfl, rfl⟩ := hb
      have hlt : o < us.size := (Array.getElem?_eq_some_iff.1 hv).1
      simp only [World.cell?, hnew]
      simp only [Option.isSome_none, Bool.false_eq_true, if_false]
      rw [Array.getElem?_append_left hlt]; exact hv
    · have := h.mem.lt hv
      rw [World.cell?_of_block (w := w) (Below.heap_alloc w.drew _ _ this)]
      exact h.mem ad v hv
  · exact h.bel.trans ⟨rfl, rfl, rfl, by simp, fun k hk _ => Below.heap_alloc w.drew _ k hk⟩
  · rcases hal m hm with h1 | h1
    · exact .inl h1
    · refine .inr ⟨h1, fun hb => ?_⟩
      obtain ⟨_, q2, _⟩ := h.row m h1
      have := h.live _ (by rw [q2]; rfl)
      omega
  · rw [hρl]
    refine ⟨h.bel.size, by simp [G'], ⟨us ++ rest, e, hnew, ?_⟩, ⟨hne, hc⟩, fun o ho => ?_⟩
    · simp only [Array.size_append, hus, hrest]
      rw [← Nat.add_mul]; congr 1; omega
    · simp only [G', and_self, if_true]
      exact Array.getElem?_eq_none (by rw [hus]; exact ho)
  · simp only [G'] at hk
    simp
    split at hk
    · omega
    · have := h.live k hk; omega
  · refine R1.slice rows (.id lab) w.heap.size 0 c sz (fun i j => us.getD (i * sz + j) Go.undef) hc hRW.2.1 (by intro h; cases h) hRW.2.2.1 (fun i j x hx => ?_) (fun i j x hx => ?_)
    · obtain ⟨v, e1, e2⟩ := hRW.2.2.2 i j x hx
      have hlt : i * sz + j < us.size := (Array.getElem?_eq_some_iff.1 e1).1
      simp [G', Array.getD, hlt]
    · obtain ⟨v, e1, e2⟩ := hRW.2.2.2 i j x hx
      have hlt : i * sz + j < us.size := (Array.getElem?_eq_some_iff.1 e1).1
      have : us.getD (i * sz + j) Go.undef = v := by
        rw [Array.getElem?_eq_getElem hlt] at e1
        simp [Array.getD, hlt]; exact Option.some.inj e1
      rw [this]
      exact R1.mono hS (fun l b h => h) e2
  · rw [hρl]
    exact ⟨rfl, rfl, hRW.2.1⟩
end
end Go.Proofs.V
namespace Go.Proofs.V
open Go Go.RowKit
set_option linter.unusedVariables false
set_option linter.unusedSimpArgs false
section
variable {E0 : Nat → Prop} {w0 : Ent} {Z : Nat → Prop} {G : Gh} {F : St} {a : Act} {w : World} {P : Program} {lab d : Nat}
theorem RW.one {sz : Nat} {rows : List (List AV)} {us : Array Value} (h : RW G sz rows us) (hpos : 0 < sz) : ∀ u ∈ us.toList, Value.one u = true := by
  intro u hu
  obtain ⟨k, hk⟩ := List.getElem?_of_mem hu
  have hk' : us[k]? = some u := by simpa using hk
  have hlt : k < rows.length * sz := by rw [← h.1]; exact (Array.getElem?_eq_some_iff.1 hk').1
  have h1 : k / sz < rows.length := Nat.div_lt_of_lt_mul (by rw [Nat.mul_comm]; exact hlt)
  have h2 : k % sz < sz := Nat.mod_lt _ hpos
  have hx : cellAt rows (k / sz) (k % sz) = some ((rows[k / sz])[k % sz]'(by rw [h.2.1 _ (List.getElem_mem h1)]; exact h2)) := by simp [cellAt, h1]
  obtain ⟨v, e1, e2⟩ := h.2.2.2 _ _ _ hx
  have e : k / sz * sz + k % sz = k := by rw [Nat.mul_comm]; exact Nat.div_add_mod k sz
  rw [e, hk'] at e1
  rw [Option.some.inj e1]
  exact R1.one e2 (h.2.2.1 _ _ _ hx)

theorem append_sound (h : Inv E0 w0 Z G F a w) (hz : ∀ n, Z1 lab n → ¬ Z n) (hd : d < F.n) {o : Oper} {s x : Operand} {ts : Array TypeId} (ho : o.op = .call { callee := .builtin .append, args := #[s, x], argTypes := ts }) {t : TypeId} (ht : ts[0]? = some t)
    {v : AV} {al' : Nat → Bool} (hv : appendA P F lab t (F.ev s) (F.ev x) ts[1]? = some (v, al')) :
    ∃ r w' G', (execOp a.eval o).run P w = .ok (.value r) w' ∧ Inv E0 w0 (fun n => Z n ∨ Z1 lab n) G' { F with t := upd F.t d v, al := al' } (a.put (some d) r) w' := by
  unfold appendA at hv
  split at hv
  · rename_i e rows nl own he hs
    split at hv
    · rename_i sz by_ hsz hby
      split at hv
      · rename_i ys hys
        split at hv
        · rename_i hc
          simp only [Bool.and_eq_true, decide_eq_true_eq, beq_iff_eq, List.all_eq_true] at hc
          obtain ⟨⟨⟨⟨⟨hall, hpos⟩, hbound⟩, hmax⟩, hby0⟩, htz⟩ := hc
          have hall1 : ∀ r ∈ rows, r.length = sz := fun r hr => hall r (List.mem_append.2 (.inl hr))
          have hall2 : ∀ r ∈ ys, r.length = sz := fun r hr => hall r (List.mem_append.2 (.inr hr))
          simp only [Option.map_eq_some_iff] at htz
          obtain ⟨zc, hzc, hzl⟩ := htz
          obtain ⟨ii, zz, hi, hiz, hzz, _, hzl2⟩ := tzero_info hzc
          have hzsz : zz.cells.size = sz := by rw [← hzl2, hzl]
          obtain ⟨hlen, ⟨us, hus, hRWy⟩, xt, hxt, hxu⟩ := src_rows h hys hall2 hpos
          have hsr : R1 G.S G.E (.slice rows nl own) (a.eval s) := by
            have hsr0 := (opd h s).rv
            rw [hs] at hsr0
            exact hsr0
          have hu := tel_und he
          -- the way that grows
          have grow : ∀ al2 : Nat → Bool, (∀ m, al2 m = true → m = lab ∨ F.al m = true) → 0 < ys.length → ∀ base cap, a.eval s = .slice base rows.length cap → ¬ rows.length + ys.length ≤ cap →
              ∃ r w' G', (execOp a.eval o).run P w = .ok (.value r) w' ∧ Inv E0 w0 (fun n => Z n ∨ Z1 lab n) G' { F with t := upd F.t d (.slice (rows ++ ys) false (.id lab)), al := al2 } (a.put (some d) r) w' := by
            intro al2 hal hpy base cap hbase hroom
            obtain ⟨base', cap', hb', hle, us0, hus0, hRW0⟩ := base_rows (P := P) (w := w.drew) (mem_drew h.mem) hsr hall1 hpos
            rw [hbase] at hb'
            cases hb'
            obtain ⟨_, ⟨us', hus', hRWy'⟩, _⟩ := src_rows (P := P) (w := w.drew) (F := F) (a := a) (x := x) (xt := ts[1]?) (ys := ys) (sz := sz) (E0 := E0) (w0 := w0) (Z := Z) (G := G) (by
              exact { h with mem := mem_drew h.mem, bel := h.bel.trans ⟨rfl, rfl, rfl, Nat.le_refl _, fun _ _ _ => rfl⟩ }) hys hall2 hpos
            obtain ⟨c, rest, hc1, hc2, hrun⟩ := append_grow (P := P) (w := w) (type := o.type) (base := base) (cap := cap) (xv := a.eval x) (us0 := us0) (us := us') ht hxt hu hsz hby hxu hlen (fun w' hw' => by subst hw'; exact hus') (fun w' hw' => by subst hw'; rw [hbase] at hus0; exact hus0) hroom hbound hmax hby0 hi hiz hzsz
            rw [← hbase] at hrun
            obtain ⟨G', hG⟩ := grown_new (d := d) h hz hd (rest := rest) (c := c) (e := e) (al' := al2) (hRW0.append hRWy') (by simp; omega) (by simpa using hc1) (by simpa using hc2) hal
            have hl2 : (rows ++ ys).length = rows.length + ys.length := by simp
            rw [hl2] at hG
            exact ⟨_, _, G', append_op ho hrun, hG⟩
          split at hv
          · -- no spare room
            have hcap : ∃ base, a.eval s = .slice base rows.length rows.length := by
              generalize a.eval s = q at *
              cases hsr with
              | nil => exact ⟨none, rfl⟩
              | slice _ _ b off cap sz' val hle hall' hfull hpl h1 h2 => exact ⟨_, by rw [hfull rfl]⟩
            obtain ⟨base, hbase⟩ := hcap
            split at hv
            · rename_i hemp
              have := Option.some.inj hv; cases this
              have hy0 : ys = [] := by simpa using hemp
              subst hy0
              have hrun : (Builtin.append_ ts o.type #[a.eval s, a.eval x]).run P w = .ok (a.eval s) w := by
                have hus0 : us = #[] := by have := hRWy.1; simpa using this
                subst hus0
                have := append_room (P := P) (w := w) (type := o.type) (base := base) (len := rows.length) (cap := rows.length) (xv := a.eval x) ht hxt hu hsz hxu hlen hus (by simp) (w' := w) (fun _ _ => rfl) (fun _ => rfl)
                rw [← hbase] at this
                simpa [hbase] using this
              refine ⟨_, _, G, append_op ho hrun, ?_⟩
              have hop := opd h s
              exact (h.set hd hop.nb hop.rv hop.cl hop.ids).zmono fun n hn => .inl hn
            · rename_i hne
              have := Option.some.inj hv; cases this
              have hpy : 0 < ys.length := by
                cases ys with
                | nil => simp at hne
                | cons y ys => simp
              exact grow (upd F.al lab true) (fun m hm => by
                simp only [upd_apply] at hm
                split at hm
                · exact .inl ‹_›
                · exact .inr hm) hpy base rows.length hbase (by omega)
          · -- a row of the frame's own
            rename_i n
            split at hv
            · rename_i hal
              obtain ⟨hbase, hnl, hlenr, hszr⟩ := tmp_slice hs h hal
              split at hv
              · rename_i hemp
                have := Option.some.inj hv; cases this
                have hy0 : ys = [] := by simpa using hemp
                subst hy0
                have hle : rows.length ≤ (G.ρ n).cap := by rw [hlenr]; exact (h.row n hal).2.2.2.1.2
                have hrun : (Builtin.append_ ts o.type #[a.eval s, a.eval x]).run P w = .ok (a.eval s) w := by
                  have hus0 : us = #[] := by have := hRWy.1; simpa using this
                  subst hus0
                  have := append_room (P := P) (w := w) (type := o.type) (base := some ⟨(G.ρ n).b, 0, none⟩) (len := rows.length) (cap := (G.ρ n).cap) (xv := a.eval x) ht hxt hu hsz hxu hlen hus (by simpa using hle) (w' := w) (fun _ _ => rfl) (fun _ => rfl)
                  rw [← hbase] at this
                  simpa [hbase] using this
                refine ⟨_, _, G, append_op ho hrun, ?_⟩
                have hop := opd h s
                exact (h.set hd hop.nb hop.rv hop.cl hop.ids).zmono fun n hn => .inl hn
              · rename_i hne
                have := Option.some.inj hv; cases this
                have hpy : 0 < ys.length := by
                  cases ys with
                  | nil => simp at hne
                  | cons y ys => simp
                obtain ⟨hr1, hr2, ⟨vs, ty, hr3, hr3'⟩, hr4, hr5⟩ := h.row n hal
                have hal2 : ∀ m, upd (upd F.al n false) lab true m = true → m = lab ∨ (F.al m = true ∧ m ≠ n) := by
                  intro m hm
                  simp only [upd_apply] at hm
                  split at hm
                  · exact .inl ‹_›
                  · split at hm
                    · cases hm
                    · exact .inr ⟨hm, ‹_›⟩
                by_cases hroom : rows.length + ys.length ≤ (G.ρ n).cap
                · -- in place
                  have hss : sz = (G.ρ n).sz := by
                    cases rows with
                    | nil => have := hr4.1; rw [← hlenr] at this; simp at this
                    | cons r rs => rw [← hall1 r (List.mem_cons_self ..), hszr r (List.mem_cons_self ..)]
                  · have hfit : rows.length * sz + 0 + us.toList.length ≤ vs.size := by
                      rw [hr3', ← hss]
                      have h1 : us.toList.length = ys.length * sz := by rw [Array.length_toList]; exact hRWy.1
                      rw [h1, Nat.add_zero, ← Nat.add_mul]
                      exact Nat.mul_le_mul_right _ hroom
                    obtain ⟨w', vs', e1, e2, e3, e4⟩ := storeCells_run (P := P) (b := (G.ρ n).b) (off := rows.length * sz) (ty := ty) us.toList 0 vs w hr3 hfit (hRWy.one hpos)
                    have hrun : (Builtin.append_ ts o.type #[a.eval s, a.eval x]).run P w = .ok (.slice (some ⟨(G.ρ n).b, 0, none⟩) (rows.length + ys.length) (G.ρ n).cap) w' := by
                      have := append_room (P := P) (w := w) (type := o.type) (base := some ⟨(G.ρ n).b, 0, none⟩) (len := rows.length) (cap := (G.ρ n).cap) (xv := a.eval x) ht hxt hu hsz hxu hlen hus hroom (w' := w') (fun a' ha' => by
                        cases ha'
                        rw [add_none, Nat.zero_add]
                        exact e1) (fun h0 => by cases h0)
                      rw [← hbase] at this
                      exact this
                    let G' : Gh := { G with S := fun ad => if ad.block = (G.ρ n).b ∧ ad.spot = none ∧ rows.length * sz ≤ ad.off ∧ ad.off < (rows.length + ys.length) * sz then vs'[ad.off]? else G.S ad, u := fun k => if k = (G.ρ n).b then some (.row lab) else G.u k, ρ := fun m => if m = lab then ⟨(G.ρ n).b, rows.length + ys.length, (G.ρ n).cap, sz⟩ else G.ρ m }
                    have hρl : G'.ρ lab = ⟨(G.ρ n).b, rows.length + ys.length, (G.ρ n).cap, sz⟩ := by simp [G']
                    have hblt := h.live _ (by rw [hr2]; rfl)
                    have hSnone : ∀ ad : Addr, ad.block = (G.ρ n).b → ad.spot = none → rows.length * sz ≤ ad.off → G.S ad = none := by
                      rintro ⟨b, off, sp⟩ rfl rfl hoff
                      exact hr5 off (by rw [← hlenr, ← hss]; exact hoff)
                    have hS : ∀ ad v, G.S ad = some v → G'.S ad = some v := fun ad v hv => by
                      simp only [G']
                      rw [if_neg (by rintro ⟨q1, q2, q3, _⟩; rw [hSnone ad q1 q2 q3] at hv; cases hv)]
                      exact hv
                    have hl2 : (rows ++ ys).length = rows.length + ys.length := by simp
                    refine ⟨_, w', G', append_op ho hrun, ?_⟩
                    refine inv_grown (G' := G') (b := (G.ρ n).b) h hz hd hS ?_ rfl rfl (e2.bel (.inl hr1) h.bel) hr1 (fun m hm => by simp only [G']; rw [if_neg hm]) (fun k _ hk => e2.other k hk) (fun ad _ q2 q3 => by simp only [G']; rw [if_neg (by rintro ⟨q, _⟩; exact q2 q)]; exact q3) (fun k hk => by simp only [G']; rw [if_neg hk]) (by simp [G']) (fun m hm => ?_) (.inr ⟨n, hr2⟩) ?_ (fun k hk => ?_) ?_ ?_
                    · intro ad u hau
                      simp only [G'] at hau
                      split at hau
                      · rename_i hq
                        obtain ⟨b, off, sp⟩ := ad
                        obtain ⟨rfl, rfl, q3, q4⟩ := hq
                        simp only [World.cell?, e2.at_]
                        exact hau
                      · rename_i hq
                        by_cases hb : ad.block = (G.ρ n).b
                        · have hc := h.mem ad u hau
                          obtain ⟨b, off, sp⟩ := ad
                          simp only at hb
                          subst hb
                          have hsp : sp = none := by
                            cases sp with
                            | none => rfl
                            | some q => simp [World.cell?, hr3] at hc
                          subst hsp
                          have hoff : off < rows.length * sz := by
                            rcases Nat.lt_or_ge off (rows.length * sz) with h1 | h1
                            · exact h1
                            · rw [hSnone _ rfl rfl h1] at hau; cases hau
                          simp only [World.cell?, hr3, Option.isSome_none, Bool.false_eq_true, if_false] at hc
                          simp only [World.cell?, e2.at_, Option.isSome_none, Bool.false_eq_true, if_false]
                          rw [e4, if_neg (by omega)]
                          exact hc
                        · rw [World.cell?_of_block (w := w) (e2.other _ hb)]
                          exact h.mem ad u hau
                    · rcases hal2 m hm with h1 | ⟨h1, h2⟩
                      · exact .inl h1
                      · refine .inr ⟨h1, fun hb => ?_⟩
                        obtain ⟨_, q2, _⟩ := h.row m h1
                        rw [hb, hr2] at q2
                        injection q2 with q2
                        injection q2 with q2
                        exact h2 q2.symm
                    · rw [hρl]
                      refine ⟨hr1, by simp [G'], ⟨vs', ty, e2.at_, by rw [e3, hr3', hss]⟩, ⟨by show 0 < rows.length + ys.length; omega, hroom⟩, fun off hoff => ?_⟩
                      have hoff : (rows.length + ys.length) * sz ≤ off := hoff
                      simp only [G']
                      rw [if_neg (by rintro ⟨_, _, _, q⟩; omega)]
                      refine hr5 off ?_
                      rw [← hlenr, ← hss]
                      have : rows.length * sz ≤ (rows.length + ys.length) * sz := Nat.mul_le_mul_right _ (Nat.le_add_right _ _)
                      omega
                    · simp only [G'] at hk
                      rw [e2.size]
                      split at hk
                      · rename_i hkb; rw [hkb]; exact hblt
                      · exact h.live k hk
                    · rw [← hl2]
                      have hcell : ∀ i j y, cellAt (rows ++ ys) i j = some y → (i < rows.length ∧ cellAt rows i j = some y) ∨ (rows.length ≤ i ∧ cellAt ys (i - rows.length) j = some y) := by
                        intro i j y hy
                        unfold cellAt at *
                        by_cases hi : i < rows.length
                        · rw [List.getElem?_append_left hi] at hy; exact .inl ⟨hi, hy⟩
                        · rw [List.getElem?_append_right (by omega)] at hy; exact .inr ⟨by omega, hy⟩
                      -- the elder cells
                      have hold : ∀ i j y, cellAt rows i j = some y → ∃ u, G.S ⟨(G.ρ n).b, i * sz + j, none⟩ = some u ∧ R1 G.S G.E y u ∧ y.plain = true := by
                        intro i j y hy
                        rw [hbase] at hsr
                        have hlt := cellAt_lt hy hall1
                        cases hsr with
                        | slice _ _ b off cap sz' val hle hall' hfull hpl h1 h2 =>
                          have hss' : sz' = sz := by
                            obtain ⟨r, hr, _⟩ := Option.bind_eq_some_iff.1 hy
                            rw [← hall' r (List.mem_of_getElem? hr), hall1 r (List.mem_of_getElem? hr)]
                          subst hss'
                          have q := h1 i j y hy
                          rw [Nat.zero_add] at q
                          exact ⟨_, q, h2 i j y hy, hpl i j y hy⟩
                      have hnewc : ∀ i j y, rows.length ≤ i → cellAt ys (i - rows.length) j = some y → ∃ u, G'.S ⟨(G.ρ n).b, i * sz + j, none⟩ = some u ∧ R1 G.S G.E y u ∧ y.plain = true := by
                        intro i j y hi hy
                        have hlt := cellAt_lt hy hall2
                        obtain ⟨u, q1, q2⟩ := hRWy.2.2.2 _ _ _ hy
                        have hmul : rows.length * sz ≤ i * sz := Nat.mul_le_mul_right _ hi
                        have hsub : (i - rows.length) * sz = i * sz - rows.length * sz := Nat.sub_mul _ _ _
                        have hup : i * sz + j < (rows.length + ys.length) * sz := by
                          have : (i + 1) * sz ≤ (rows.length + ys.length) * sz := Nat.mul_le_mul_right _ (by omega)
                          rw [Nat.add_mul] at this; omega
                        refine ⟨u, ?_, q2, hRWy.2.2.1 _ _ _ hy⟩
                        simp only [G', true_and]
                        rw [if_pos ⟨by omega, hup⟩, e4]
                        have hul : us.toList.length = ys.length * sz := by rw [Array.length_toList]; exact hRWy.1
                        rw [Nat.add_mul] at hup
                        rw [if_pos ⟨by omega, by rw [hul]; omega⟩, show i * sz + j - (rows.length * sz + 0) = (i - rows.length) * sz + j by omega, Array.getElem?_toList]
                        exact q1
                      refine R1.slice (rows ++ ys) (.id lab) (G.ρ n).b 0 (G.ρ n).cap sz (fun i j => (G'.S ⟨(G.ρ n).b, i * sz + j, none⟩).getD Go.undef) (by rw [hl2]; exact hroom) hall (by intro h0; cases h0) ?_ ?_ ?_
                      · intro i j y hy
                        rcases hcell i j y hy with ⟨_, hy⟩ | ⟨hi, hy⟩
                        · obtain ⟨_, _, _, q⟩ := hold i j y hy; exact q
                        · obtain ⟨_, _, _, q⟩ := hnewc i j y hi hy; exact q
                      · intro i j y hy
                        rw [Nat.zero_add]
                        rcases hcell i j y hy with ⟨_, hy⟩ | ⟨hi, hy⟩
                        · obtain ⟨u, q, _, _⟩ := hold i j y hy
                          rw [hS _ _ q]; rfl
                        · obtain ⟨u, q, _, _⟩ := hnewc i j y hi hy
                          rw [q]; rfl
                      · intro i j y hy
                        rcases hcell i j y hy with ⟨_, hy⟩ | ⟨hi, hy⟩
                        · obtain ⟨u, q, q2, _⟩ := hold i j y hy
                          rw [hS _ _ q]
                          exact R1.mono hS (fun l b h => h) q2
                        · obtain ⟨u, q, q2, _⟩ := hnewc i j y hi hy
                          rw [q]
                          exact R1.mono hS (fun l b h => h) q2
                    · rw [hρl]
                      exact ⟨by rw [hl2], hl2, hall⟩
                · exact grow _ (fun m hm => by
                    rcases hal2 m hm with h1 | ⟨h1, _⟩
                    · exact .inl h1
                    · exact .inr h1) hpy _ _ hbase hroom
            · cases hv
          · cases hv
        · cases hv
      · cases hv
    · cases hv
  · cases hv
end
end Go.Proofs.V
namespace Go.Proofs.V
open Go Go.RowKit
set_option linter.unusedVariables false
set_option linter.unusedSimpArgs false
section
variable {E0 : Nat → Prop} {w0 : Ent} {Z : Nat → Prop} {G : Gh} {F : St} {a : Act} {w : World} {P : Program} {lab d : Nat}
/-- A box becomes a row that nobody writes. -/
theorem inv_freeze1 (h : Inv E0 w0 Z G F a w) {i g : Nat} {cs : List AV} (hi : F.t i = .box g cs) : ∃ G', Inv E0 w0 Z G' { F with t := upd F.t i (.ref (cs.map strip1) 0) } a w ∧ (∀ ad v, G.S ad = some v → G'.S ad = some v) ∧ G'.E = G.E := by
  obtain ⟨b, vs, hB, hb0, hu, ⟨⟨ty, hheap⟩, hsz, hpl, hR, hS⟩, hcl⟩ := h.box i g cs hi
  let G' : Gh := { G with S := fun ad => if ad.block = b ∧ ad.spot = none then vs[ad.off]? else G.S ad, u := fun k => if k = b then none else G.u k }
  have hSS : ∀ ad v, G.S ad = some v → G'.S ad = some v := fun ad v hv => by
    simp only [G']
    rw [if_neg (by rintro ⟨q, _⟩; rw [hS ad q] at hv; cases hv)]
    exact hv
  have hblt := h.live b (by rw [hu]; rfl)
  have hRR : ∀ {x : AV} {v : Value}, R1 G.S G.E x v → R1 G'.S G'.E x v := fun hr => R1.mono hSS (fun l b hb => hb) hr
  have hRV : ∀ {x : AV} {v : Value}, RV G x v → RV G' x v := by
    intro x v hr
    cases x with
    | fp p q r => exact hr
    | box p q => exact hr
    | _ => exact hRR hr
  have hSn : ∀ ad : Addr, ad.block ≠ b → G.S ad = none → G'.S ad = none := fun ad h1 h2 => by
    simp only [G']
    rw [if_neg (by rintro ⟨q, _⟩; exact h1 q)]
    exact h2
  have hne : ∀ {b' : Nat} {tg : Tg}, G.u b' = some tg → tg ≠ .slot i → b' ≠ b := by
    rintro b' tg h1 h2 rfl
    rw [hu] at h1
    exact h2 (Option.some.inj h1).symm
  have hHolds : ∀ {b' : Nat} {cs : List AV} {vs : Array Value}, b' ≠ b → Holds1 G w b' cs vs → Holds1 G' w b' cs vs := by
    rintro b' cs vs hne ⟨q1, q2, q3, q4, q5⟩
    exact ⟨q1, q2, q3, fun j x v hx hv => hRR (q4 j x v hx hv), fun ad ha => hSn ad (by rw [ha]; exact hne) (q5 ad ha)⟩
  have hslot := h.slot i
  rw [hi] at hslot
  obtain ⟨b', hb', hav⟩ := hslot
  rw [hB] at hb'
  have := Option.some.inj hb'; subst this
  refine ⟨G', ?_, hSS, rfl⟩
  exact {
    nsz := h.nsz
    df := h.df
    slot := fun j => by
      simp only [upd_apply]
      split
      · rename_i hj
        subst hj
        rw [hav]
        have hval : ∀ (k : Nat) (x : AV), (cs.map strip1)[k]? = some x → ∃ y, cs[k]? = some y ∧ x = strip1 y ∧ vs[k]? = some (vs.getD k Go.undef) := by
          intro k x hx
          rw [List.getElem?_map] at hx
          simp only [Option.map_eq_some_iff] at hx
          obtain ⟨y, hy, rfl⟩ := hx
          have hk : k < vs.size := by rw [hsz]; exact (List.getElem?_eq_some_iff.1 hy).1
          exact ⟨y, hy, rfl, by simp [Array.getD, hk]⟩
        have := R1.ref (S := G'.S) (E := G'.E) (cs.map strip1) 0 b 0 (fun k => vs.getD k Go.undef) (fun x hx => by
            obtain ⟨y, hy, rfl⟩ := List.mem_map.1 hx
            rw [plain_strip1]; exact hpl y hy) (fun k x hx => by
            obtain ⟨y, _, _, hv⟩ := hval k x hx
            simp only [G', Nat.zero_add, and_self, if_true]
            exact hv) (fun k x hx => by
            obtain ⟨y, hy, rfl, hv⟩ := hval k x hx
            exact strip1_R1 (hRR (hR k y _ hy hv)))
        exact this
      · exact hRV (h.slot j)
    cl := fun j hb' => by
      simp only [upd_apply] at hb' ⊢
      split
      · exact Cl_of_noId (by rintro n ⟨y, hy, rows, nl, rfl⟩; simp [parts] at hy)
      · rename_i hj; exact h.cl j (by simpa only [hj, if_false] using hb')
    ids := fun j n => by
      simp only [upd_apply]
      split
      · rintro ⟨y, hy, rows, nl, rfl⟩; simp [parts] at hy
      · exact h.ids j n
    mem := fun ad v hv => by
      simp only [G'] at hv
      split at hv
      · rename_i hq
        obtain ⟨b2, o, s⟩ := ad
        obtain ⟨rfl, rfl⟩ := hq
        simp only [World.cell?, hheap]
        exact hv
      · exact h.mem ad v hv
    bel := h.bel
    rel := ⟨fun ad v hv => hSS _ _ (h.rel.1 ad v hv), fun ad h0 hb he => hSn ad (by rintro rfl; rcases hb0 with q | q; (· omega); (· exact he q.1)) (h.rel.2.1 ad h0 hb he), h.rel.2.2.1, h.rel.2.2.2.1, h.rel.2.2.2.2⟩
    box := fun j gg cs' hj => by
      simp only [upd_apply] at hj
      split at hj
      · cases hj
      · rename_i hji
        obtain ⟨b2, vs2, q1, q2, q3, q4, q5⟩ := h.box j gg cs' hj
        have hn := hne q3 (by intro e; injection e with e; exact hji e)
        exact ⟨b2, vs2, q1, q2, by simp only [G']; rw [if_neg hn]; exact q3, hHolds hn q4, q5⟩
    row := fun n ha => by
      obtain ⟨q1, q2, q3, q4, q5⟩ := h.row n ha
      have hn := hne q2 (by intro e; cases e)
      exact ⟨q1, by simp only [G']; rw [if_neg hn]; exact q2, q3, q4, fun o ho => hSn _ hn (q5 o ho)⟩
    obj := fun l cs' hl => by
      obtain ⟨b2, vs2, q1, q2, q3, q4⟩ := h.obj l cs' hl
      have hn := hne q3 (by intro e; cases e)
      exact ⟨b2, vs2, q1, q2, by simp only [G']; rw [if_neg hn]; exact q3, hHolds hn q4⟩
    zB := h.zB
    zal := h.zal
    live := fun k hk => by
      simp only [G'] at hk
      split at hk
      · cases hk
      · exact h.live k hk
    pro := fun k o hk => by
      obtain ⟨p1, p2, p3⟩ := h.pro k o hk
      have hkb : k ≠ b := by rintro rfl; rw [hu] at p2; cases p2
      refine ⟨p1, ?_, fun hf ad ha => hSn ad (by rw [ha]; exact hkb) (p3 hf ad ha)⟩
      simp only [G']
      split
      · rfl
      · exact p2
    bm := h.bm }

theorem freezeL_sound : ∀ (l : List Operand) {G : Gh} {F : St} {xs : List AV} {F1 : St}, Inv E0 w0 Z G F a w → freezeL F l = some (xs, F1) → ∃ G1, Inv E0 w0 Z G1 F1 a w ∧ (∀ ad v, G.S ad = some v → G1.S ad = some v) ∧ G1.E = G.E ∧ xs.length = l.length ∧ (∀ (j : Nat) (x : AV) (o : Operand), xs[j]? = some x → l[j]? = some o → R1 G1.S G1.E x (a.eval o)) ∧ F1.n = F.n
  | [], G, F, xs, F1, h, hf => by simp [freezeL] at hf; obtain ⟨rfl, rfl⟩ := hf; exact ⟨G, h, fun _ _ h => h, rfl, rfl, fun j x o hx => by simp at hx, rfl⟩
  | op :: l, G, F, xs, F1, h, hf => by
    have other : ∀ {y : AV}, R1 G.S G.E y (a.eval op) → (freezeL F l).map (fun r => (y :: r.1, r.2)) = some (xs, F1) → ∃ G1, Inv E0 w0 Z G1 F1 a w ∧ (∀ ad v, G.S ad = some v → G1.S ad = some v) ∧ G1.E = G.E ∧ xs.length = (op :: l).length ∧ (∀ (j : Nat) (x : AV) (o : Operand), xs[j]? = some x → (op :: l)[j]? = some o → R1 G1.S G1.E x (a.eval o)) ∧ F1.n = F.n := by
      intro y hy hm
      simp only [Option.map_eq_some_iff] at hm
      obtain ⟨⟨ys, F2⟩, hr, he⟩ := hm
      cases he
      obtain ⟨G1, q1, q2, q3, q4, q5, q6⟩ := freezeL_sound l h hr
      refine ⟨G1, q1, q2, q3, by simp [q4], fun j x o hx ho => ?_, q6⟩
      cases j with
      | zero => simp at hx ho; subst hx; subst ho; exact R1.mono q2 (fun l b hb => by rw [q3]; exact hb) hy
      | succ j => exact q5 j x o (by simpa using hx) (by simpa using ho)
    have oth2 : ∀ (hfree : (F.ev op).free = true), (freezeL F l).map (fun r => (strip (F.ev op) :: r.1, r.2)) = some (xs, F1) → ∃ G1, Inv E0 w0 Z G1 F1 a w ∧ (∀ ad v, G.S ad = some v → G1.S ad = some v) ∧ G1.E = G.E ∧ xs.length = (op :: l).length ∧ (∀ (j : Nat) (x : AV) (o : Operand), xs[j]? = some x → (op :: l)[j]? = some o → R1 G1.S G1.E x (a.eval o)) ∧ F1.n = F.n :=
      fun hfree hm => other (strip_R1 (opd_R1 (opd h op) hfree)) hm
    cases op with
    | tmp i =>
      simp only [freezeL] at hf
      split at hf
      · rename_i g cs hi
        simp only [Option.map_eq_some_iff] at hf
        obtain ⟨⟨ys, F2⟩, hr, he⟩ := hf
        cases he
        obtain ⟨G2, q1, q2, q3⟩ := inv_freeze1 h hi
        obtain ⟨G1, r1, r2, r3, r4, r5, r6⟩ := freezeL_sound l q1 hr
        refine ⟨G1, r1, fun ad v hv => r2 _ _ (q2 ad v hv), r3.trans q3, by simp [r4], fun j x o hx ho => ?_, r6⟩
        cases j with
        | zero =>
          simp at hx ho
          subst hx; subst ho
          have hs := q1.slot i
          simp only [upd_same] at hs
          have hs : R1 G2.S G2.E (.ref (cs.map strip1) 0) (a.tmps.getD i Go.undef) := hs
          exact R1.mono r2 (fun l b hb => by rw [r3]; exact hb) hs
        | succ j => exact r5 j x o (by simpa using hx) (by simpa using ho)
      · rename_i hnb
        split at hf
        · rename_i hfree
          have e : F.ev (.tmp i) = F.t i := by
            simp only [St.ev, St.tmp]
            first | done | (split; · rename_i g cs he; exact absurd he (hnb g cs)
                            · rfl)
          exact oth2 (by rw [e]; exact hfree) (by rw [e]; exact hf)
        · cases hf
    | const v =>
      simp only [freezeL] at hf
      split at hf
      · rename_i hfree; exact oth2 hfree hf
      · cases hf
    | global g =>
      simp only [freezeL] at hf
      split at hf
      · rename_i hfree; exact oth2 hfree hf
      · cases hf
    | func f =>
      simp only [freezeL] at hf
      split at hf
      · rename_i hfree; exact oth2 hfree hf
      · cases hf

theorem toArr {α β : Type} (f : α → β) (l : Array α) : l.map f = (l.toList.map f).toArray := by
  apply Array.ext'
  simp

theorem makeFunc_sound (h : Inv E0 w0 Z G F a w) {o : Oper} {f : Fn} {first captured : Array Operand} (ho : o.op = .makeFunc f first captured) {fs cs : List AV} {F1 F2 : St} (h1 : freezeL F first.toList = some (fs, F1)) (h2 : freezeL F1 captured.toList = some (cs, F2)) {d : Nat} (hd : d < F2.n) :
    ∃ v G', (execOp a.eval o).run P w = .ok (.value v) w ∧ Inv E0 w0 Z G' { F2 with t := upd F2.t d (.fn f fs cs) } (a.put (some d) v) w := by
  obtain ⟨G1, q1, q2, q3, q4, q5, q6⟩ := freezeL_sound _ h h1
  obtain ⟨G2, r1, r2, r3, r4, r5, r6⟩ := freezeL_sound _ q1 h2
  refine ⟨.func f (first.map a.eval) (captured.map a.eval), G2, by simp [execOp, ho, Instr.makeFunc, Sem.run_bind], ?_⟩
  have hr : R1 G2.S G2.E (.fn f fs cs) (.func f (first.map a.eval) (captured.map a.eval)) := by
    have e1 : first.map a.eval = (first.toList.map a.eval).toArray := toArr _ _
    have e2 : captured.map a.eval = (captured.toList.map a.eval).toArray := toArr _ _
    rw [e1, e2]
    refine R1.fn f fs cs _ _ (by simp [q4]) (by simp [r4]) (fun j x v hx hv => ?_) (fun j x v hx hv => ?_)
    · rw [List.getElem?_map] at hv
      simp only [Option.map_eq_some_iff] at hv
      obtain ⟨y, hy, rfl⟩ := hv
      exact R1.mono r2 (fun l b hb => by rw [r3]; exact hb) (q5 j x y hx hy)
    · rw [List.getElem?_map] at hv
      simp only [Option.map_eq_some_iff] at hv
      obtain ⟨y, hy, rfl⟩ := hv
      exact r5 j x y hx hy
  have hop : Opd G2 F2 Z (.fn f fs cs) (.func f (first.map a.eval) (captured.map a.eval)) := .of_noId hr (by rintro n ⟨y, hy, rows, nl, rfl⟩; simp [parts] at hy)
  exact r1.set hd hop.nb hop.rv hop.cl hop.ids

theorem evs_vals (h : Inv E0 w0 Z G F a w) : ∀ {l : List Operand} {us : List Value}, vals (evs F l) = some us → l.map a.eval = us
  | [], us, hv => by simp [evs, vals] at hv; subst hv; rfl
  | x :: l, us, hv => by
    simp only [evs, vals] at hv
    split at hv
    · rename_i u us' h1 h2
      have := Option.some.inj hv; subst this
      have e1 : a.eval x = u := by
        have ho := opd h x
        generalize hx : F.ev x = X at *
        have hrv := ho.rv
        cases X <;> first | (cases h1; done) | exact val1_R1 (S := G.S) (E := G.E) h1 hrv
      simp [e1, evs_vals h h2]
    · cases hv
theorem builtin_sound (h : Inv E0 w0 Z G F a w) (hd : d < F.n) {o : Oper} {b : Builtin} {args : Array Operand} {ts : Array TypeId} (ho : o.op = .call { callee := .builtin b, args, argTypes := ts }) {v : AV}
    (hv : builtinA P b ts o.type (args.map isConstOp) (evs F args.toList) = some v) : Yields E0 w0 Z lab d G F a w P o v := by
  have gen : ∀ us, vals (evs F args.toList) = some us → ∀ q, pr P (builtin b ts o.type (args.map isConstOp) us.toArray) = some (.value q) → Yields E0 w0 Z lab d G F a w P o (absV q) := by
    intro us hus q hq
    have e := evs_vals h hus
    refine Yields.same h hd (v := q) ?_ (.of_noId (absV_R1 _ _ q) (noId_absV q))
    have hargs : args.map a.eval = us.toArray := by rw [← e]; exact toArr _ _
    simp only [execOp, ho, resolve, Sem.run_bind, Sem.run_pure, Result.andThen_ok, invoke, hargs]
    refine Eq.trans ?_ (pr_run _ _ hq w)
    congr 3
  unfold builtinA at hv
  split at hv
  · rename_i rows nl own hargs
    split at hv
    · rename_i t ht
      split at hv
      · rename_i htel
        have := Option.some.inj hv; subst this
        obtain ⟨e, he⟩ := Option.isSome_iff_exists.1 htel
        obtain ⟨x, hax⟩ : ∃ x, args = #[x] := by
          have hl : (evs F args.toList).length = args.toList.length := by
            have : ∀ l : List Operand, (evs F l).length = l.length := by
              intro l; induction l with
              | nil => rfl
              | cons x l ih => simp [evs, ih]
            exact this _
          rw [hargs] at hl
          obtain ⟨l⟩ := args
          cases l with
          | nil => simp at hl
          | cons x l => cases l with
            | nil => exact ⟨x, rfl⟩
            | cons y l => simp at hl
        subst hax
        simp [evs] at hargs
        have hxr := (opd h x).rv
        rw [hargs] at hxr
        have hxr : R1 G.S G.E (.slice rows nl own) (a.eval x) := hxr
        obtain ⟨base, cap, hb⟩ : ∃ base cap, a.eval x = .slice base rows.length cap := by
          generalize a.eval x = q at *
          cases hxr
          · exact ⟨_, _, rfl⟩
          · exact ⟨_, _, rfl⟩
        refine Yields.same h hd (v := .int .i64 rows.length) ?_ (.of_noId (.at _) (nid_at _))
        simp [execOp, ho, resolve, invoke, builtin, Sem.run_bind, Builtin.len_, ht, hb, run_underlying (tel_und he), goInt]
      · cases hv
    · cases hv
  · rename_i loc off len cap sz hargs
    split at hv
    · rename_i t ht
      split at hv
      · rename_i htel
        have := Option.some.inj hv; subst this
        obtain ⟨e, he⟩ := Option.isSome_iff_exists.1 htel
        obtain ⟨x, hax⟩ : ∃ x, args = #[x] := by
          have hl : (evs F args.toList).length = args.toList.length := by
            have : ∀ l : List Operand, (evs F l).length = l.length := by
              intro l; induction l with
              | nil => rfl
              | cons x l ih => simp [evs, ih]
            exact this _
          rw [hargs] at hl
          obtain ⟨l⟩ := args
          cases l with
          | nil => simp at hl
          | cons x l => cases l with
            | nil => exact ⟨x, rfl⟩
            | cons y l => simp at hl
        subst hax
        simp [evs] at hargs
        have hxr := (opd h x).rv
        rw [hargs] at hxr
        have hxr : R1 G.S G.E (.hs loc off len cap sz) (a.eval x) := hxr
        obtain ⟨base, hb⟩ : ∃ base, a.eval x = .slice base len cap := by
          generalize a.eval x = q at *
          cases hxr
          exact ⟨_, rfl⟩
        refine Yields.same h hd (v := .int .i64 len) ?_ (.of_noId (.at _) (nid_at _))
        simp [execOp, ho, resolve, invoke, builtin, Sem.run_bind, Builtin.len_, ht, hb, run_underlying (tel_und he), goInt]
      · cases hv
    · cases hv
  · split at hv
    · rename_i us hus
      split at hv
      · rename_i q hq
        have := Option.some.inj hv; subst this
        exact gen us hus q hq
      · cases hv
    · cases hv
end
structure CPost (w : World) (S : Addr → Option Value) (E : Nat → Option Nat) (r : AV) (H' : List (List AV)) (v : Value) (S' : Addr → Option Value) (E' : Nat → Option Nat) (φ : Nat → Rw) (w' : World) : Prop where
  bel : Bel (fun b => ∃ l, E l = some b) w w'
  sS : ∀ ad u, S ad = some u → S' ad = some u
  sN : ∀ ad : Addr, S ad = none → ad.block < w.heap.size → S' ad = none
  mem : Mem S' w'
  eS : ∀ l b, E l = some b → E' l = some b
  eN : ∀ l b, E l = none → E' l = some b → w.heap.size ≤ b ∧ b < w'.heap.size
  eH : ∀ l b, E' l = some b → l < H'.length
  heap : ∀ l cs, H'[l]? = some cs → ∃ b vs, E' l = some b ∧ Holds1 ⟨S', fun _ => none, E', fun _ => none, φ⟩ w' b cs vs
  inj : ∀ l l' b, E' l = some b → E' l' = some b → l = l'
  rv : R1 S' E' r v
  nid : NoId r
  fresh : ∀ (j : Nat) (u : Value) rows nl, (parts r)[j]? = some (.slice rows nl .fresh) → (vparts v)[j]? = some u → u = .slice (some ⟨(φ j).b, 0, none⟩) rows.length (φ j).cap ∧ nl = false ∧ rows.length = (φ j).len ∧ (∀ r ∈ rows, r.length = (φ j).sz) ∧ w.heap.size ≤ (φ j).b ∧
    (∃ vs ty, w'.heap[(φ j).b]? = some (.cells vs ty (0, 0)) ∧ vs.size = (φ j).cap * (φ j).sz) ∧ (0 < (φ j).len ∧ (φ j).len ≤ (φ j).cap) ∧ (∀ o, (φ j).len * (φ j).sz ≤ o → S' ⟨(φ j).b, o, none⟩ = none) ∧ ∀ l, E' l ≠ some (φ j).b
  apart : ∀ (j j' : Nat) rows nl rows' nl', (parts r)[j]? = some (.slice rows nl .fresh) → (parts r)[j']? = some (.slice rows' nl' .fresh) → (φ j).b = (φ j').b → j = j'

/-- The heap as a call finds it. -/
structure HPre (w : World) (S : Addr → Option Value) (E : Nat → Option Nat) (H : List (List AV)) : Prop where
  mem : Mem S w
  eH : ∀ l b, E l = some b → l < H.length
  heap : ∀ l cs, H[l]? = some cs → ∃ b vs, E l = some b ∧ Holds1 ⟨S, fun _ => none, E, fun _ => none, fun _ => ⟨0, 0, 0, 0⟩⟩ w b cs vs
  inj : ∀ l l' b, E l = some b → E l' = some b → l = l'

/-- A call that ends with a value. -/
def Does (P : Program) (g : Nat) (vs : Array Value) (w : World) (R : Value → World → Prop) : Prop :=
  (∃ v w', (callFunc g vs).run P w = .ok (.value v) w' ∧ R v w') ∨
  ((callFunc g vs).run P w = .ok (.enter g vs) w ∧ ∀ n, CallsIn Fence.wide n P g vs w fun e w' => ∃ v, e = .returned v ∧ R v w')
def CSound (P : Program) (g : Nat) (as : List AV) (H : List (List AV)) (r : AV) (H' : List (List AV)) : Prop :=
  ∀ (w : World) (S : Addr → Option Value) (E : Nat → Option Nat) (vs : List Value), HPre w S E H → (∀ x ∈ as, NoId x) → vs.length = as.length → (∀ (j : Nat) (x : AV) (v : Value), as[j]? = some x → vs[j]? = some v → R1 S E x v) →
    Does P g vs.toArray w fun v w' => ∃ S' E' φ, CPost w S E r H' v S' E' φ w'
end Go.Proofs.V
