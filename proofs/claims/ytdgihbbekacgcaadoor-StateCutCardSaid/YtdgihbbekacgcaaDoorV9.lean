/- The quiet operations: literals, conversions; all of them together. -/
import Derived.Test.YtdgihbbekacgcaaDoorV8
namespace Go.Proofs.V
open Go Go.RowKit
set_option linter.unusedVariables false
set_option linter.unusedSimpArgs false

section
variable {E0 : Nat → Prop} {w0 : Ent} {Z : Nat → Prop} {G : Gh} {F : St} {a : Act} {w : World} {P : Program} {lab : Nat} {d : Nat}

/-! ### Parts of a literal -/
theorem foldl_set (vs : List Value) : ∀ (k off : Nat) (cs : Array Value) (j : Nat), ((vs.zipIdx k).foldl (fun (cs : Array Value) (x : Value × Nat) => cs.setIfInBounds (off + x.2) x.1) cs)[j]? = if off + k ≤ j ∧ j < off + k + vs.length ∧ j < cs.size then vs[j - (off + k)]? else cs[j]? := by
  induction vs with
  | nil => intro k off cs j; simp; omega
  | cons v vs ih =>
    intro k off cs j
    simp only [List.zipIdx_cons, List.foldl_cons]
    rw [ih]
    simp only [Array.size_setIfInBounds, List.length_cons]
    by_cases h1 : j = off + k
    · subst h1
      rw [if_neg (by omega)]
      by_cases h2 : off + k < cs.size
      · rw [if_pos ⟨by omega, by omega, h2⟩]
        simp [h2]
      · rw [if_neg (by omega)]
        rw [Array.getElem?_eq_none (by simpa using h2), Array.getElem?_eq_none (by omega)]
    · by_cases h3 : off + (k + 1) ≤ j ∧ j < off + (k + 1) + vs.length ∧ j < cs.size
      · rw [if_pos h3, if_pos (by omega)]
        rw [show j - (off + k) = (j - (off + (k + 1))) + 1 by omega]
        simp
      · rw [if_neg h3, if_neg (by omega), Array.getElem?_setIfInBounds_ne (by omega)]
theorem foldl_size (vs : List Value) : ∀ (k off : Nat) (cs : Array Value), ((vs.zipIdx k).foldl (fun (cs : Array Value) (x : Value × Nat) => cs.setIfInBounds (off + x.2) x.1) cs).size = cs.size := by
  induction vs with
  | nil => intro k off cs; rfl
  | cons v vs ih => intro k off cs; simp only [List.zipIdx_cons, List.foldl_cons]; rw [ih]; simp

theorem fill_step (vc : Array Value) (off : Nat) (cells : Array Value) (j : Nat) (hfit : off + vc.size ≤ cells.size) : (vc.zipIdx.foldl (fun cs (c, j) => cs.setIfInBounds (off + j) c) cells)[j]? = if off ≤ j ∧ j < off + vc.size then vc[j - off]? else cells[j]? := by
  have h := foldl_set vc.toList 0 off cells j
  have e : vc.zipIdx.foldl (fun cs (c, j) => cs.setIfInBounds (off + j) c) cells = (vc.toList.zipIdx 0).foldl (fun (cs : Array Value) (x : Value × Nat) => cs.setIfInBounds (off + x.2) x.1) cells := by
    rw [← Array.foldl_toList, Array.toList_zipIdx]
  rw [e, h]
  simp only [Nat.add_zero, Array.length_toList, Array.getElem?_toList]
  by_cases h1 : off ≤ j ∧ j < off + vc.size
  · rw [if_pos ⟨h1.1, h1.2, by omega⟩, if_pos h1]
  · rw [if_neg (by omega), if_neg h1]
theorem fill_step_size (vc : Array Value) (off : Nat) (cells : Array Value) : (vc.zipIdx.foldl (fun cs (c, j) => cs.setIfInBounds (off + j) c) cells).size = cells.size := by
  have e : vc.zipIdx.foldl (fun cs (c, j) => cs.setIfInBounds (off + j) c) cells = (vc.toList.zipIdx 0).foldl (fun (cs : Array Value) (x : Value × Nat) => cs.setIfInBounds (off + x.2) x.1) cells := by
    rw [← Array.foldl_toList, Array.toList_zipIdx]
  rw [e, foldl_size]

theorem splice_get (row : List AV) (off : Nat) (cs : List AV) (h : off + cs.length ≤ row.length) (j : Nat) : (splice row off cs)[j]? = if off ≤ j ∧ j < off + cs.length then cs[j - off]? else row[j]? := by
  unfold splice
  by_cases h1 : j < off
  · rw [List.getElem?_append_left (by simp; omega), List.getElem?_append_left (by simp; omega), List.getElem?_take, if_pos h1, if_neg (by omega)]
  · by_cases h2 : j < off + cs.length
    · rw [List.getElem?_append_left (by simp; omega), List.getElem?_append_right (by simp; omega), if_pos ⟨by omega, h2⟩]
      congr 1; simp; omega
    · rw [List.getElem?_append_right (by simp; omega), if_neg (by omega), List.getElem?_drop]
      congr 1; simp; omega
theorem splice_len (row : List AV) (off : Nat) (cs : List AV) (h : off + cs.length ≤ row.length) : (splice row off cs).length = row.length := by
  unfold splice; simp; omega

/-- One part goes in. -/
theorem PW.splice {cs : List AV} {vs : Array Value} (h : PW G cs vs) {xs : List AV} {us : Array Value} (hx : PW G xs us) {off : Nat} (hfit : off + xs.length ≤ cs.length) :
    PW G (splice cs off xs) (us.zipIdx.foldl (fun cs (c, j) => cs.setIfInBounds (off + j) c) vs) := by
  refine ⟨by rw [fill_step_size, splice_len _ _ _ hfit]; exact h.1, ?_, ?_⟩
  · intro x hm
    obtain ⟨j, hj⟩ := List.getElem?_of_mem hm
    rw [splice_get _ _ _ hfit] at hj
    split at hj
    · exact hx.2.1 x (List.mem_of_getElem? hj)
    · exact h.2.1 x (List.mem_of_getElem? hj)
  · intro j x v hj hv
    rw [splice_get _ _ _ hfit] at hj
    rw [fill_step _ _ _ _ (by rw [hx.1, h.1]; exact hfit), hx.1] at hv
    split at hj
    · rename_i hc; rw [if_pos hc] at hv; exact hx.2.2 _ _ _ hj hv
    · rename_i hc; rw [if_neg hc] at hv; exact h.2.2 _ _ _ hj hv

theorem fill_R (h : Inv E0 w0 Z G F a w) {place place' : Nat → Option (Nat × Nat)} (hpl : ∀ i x, place i = some x → place' i = some x) : ∀ (ps : List (Nat × Operand)) (cs : List AV) (vs : Array Value) (r : List AV), PW G cs vs → fillA place cs (ps.map fun p => (p.1, F.ev p.2)) = some r →
    ∃ us, Instr.fill place' vs (ps.map fun p => (p.1, a.eval p.2)) = some us ∧ PW G r us
  | [], cs, vs, r, hp, hr => ⟨vs, rfl, by simp [fillA] at hr; subst hr; exact hp⟩
  | (i, x) :: ps, cs, vs, r, hp, hr => by
    simp only [List.map_cons, fillA] at hr
    split at hr
    · cases hr
    · rename_i off size hpi
      split at hr
      · rename_i hc
        simp only [Bool.and_eq_true, beq_iff_eq, decide_eq_true_eq] at hc
        obtain ⟨⟨hs, hlen⟩, hfit⟩ := hc
        have hxr := opd_R1 (opd h x) (storable_free hs)
        have hcells := cells_R1 hxr hs
        have hp' := hp.splice hcells.strip (off := off) (by simpa [hlen] using hfit)
        obtain ⟨us, h1, h2⟩ := fill_R h hpl ps _ _ r hp' hr
        refine ⟨us, ?_, h2⟩
        simp only [List.map_cons, Instr.fill, hpl _ _ hpi]
        rw [if_neg (by rw [hcells.1, hlen, hp.1]; simp; omega)]
        exact h1
      · cases hr

theorem fillA_noId {place : Nat → Option (Nat × Nat)} : ∀ (ps : List (Nat × AV)) (cs r : List AV), (∀ y ∈ cs, ∀ rows nl n, y ≠ .slice rows nl (.id n)) → fillA place cs ps = some r → ∀ y ∈ r, ∀ rows nl n, y ≠ .slice rows nl (.id n)
  | [], cs, r, h, hr => by simp [fillA] at hr; subst hr; exact h
  | (i, x) :: ps, cs, r, h, hr => by
    simp only [fillA] at hr
    split at hr
    · cases hr
    · rename_i off size hpi
      split at hr
      · rename_i hc
        simp only [Bool.and_eq_true, beq_iff_eq, decide_eq_true_eq] at hc
        refine fillA_noId ps _ r (fun y hy => ?_) hr
        unfold splice at hy
        simp only [List.mem_append] at hy
        rcases hy with (hy | hy) | hy
        · exact h y (List.mem_of_mem_take hy)
        · obtain ⟨u, _, rfl⟩ := List.mem_map.1 hy
          exact noId_strip1 u
        · exact h y (List.mem_of_mem_drop hy)
      · cases hr

theorem tzero_noId {e : TypeId} {cs : List AV} (hc : tzero P e = some cs) : ∀ y ∈ cs, ∀ rows nl n, y ≠ .slice rows nl (.id n) := by
  obtain ⟨i, z, h1, h2, rfl, hp, hl⟩ := tzero_info hc
  intro y hy rows nl n he
  subst he
  unfold AV.cells at hy
  split at hy
  · rename_i cs hcs
    exact noId_absV z n ⟨_, by rw [hcs]; exact hy, rows, nl, rfl⟩
  · rename_i hna
    simp at hy
    exact noId_absV z n ⟨.slice rows nl (.id n), by rw [← hy]; simp [parts], rows, nl, rfl⟩

theorem run_places {fs : Array Field} (hall : fs.toList.all (fun f => (P.info? f.type).isSome) = true) (w : World) : (fs.mapM (fun (f : Field) => (do pure (f.offset, ← sizeOf f.type) : Sem (Nat × Nat)))).run P w = .ok (fs.map fun f => (f.offset, P.cellsOf f.type)) w := by
  rw [Array.mapM_eq_mapM_toList]
  have key : ∀ l : List Field, l.all (fun f => (P.info? f.type).isSome) = true → (l.mapM (fun (f : Field) => (do pure (f.offset, ← sizeOf f.type) : Sem (Nat × Nat)))).run P w = .ok (l.map fun f => (f.offset, P.cellsOf f.type)) w := by
    intro l
    induction l with
    | nil => intro _; simp
    | cons f l ih =>
      intro h
      simp only [List.all_cons, Bool.and_eq_true] at h
      obtain ⟨i, hi⟩ := Option.isSome_iff_exists.1 h.1
      simp only [List.mapM_cons, Sem.run_bind, run_sizeOf _ hi, Result.andThen_ok, Sem.run_pure, ih h.2, List.map_cons]
  simp only [Sem.run_map, key _ hall, Result.andThen_ok]
  congr 1
  apply Array.ext'
  simp

theorem q_build (h : Inv E0 w0 Z G F a w) (hd : d < F.n) {o : Oper} {t : TypeId} {ps : Array (Nat × Operand)} (ho : o.op = .build t ps) {cs r : List AV} {place : Nat → Option (Nat × Nat)} (hz : tzero P t = some cs) (hb : buildPlace P t = some place)
    (hr : fillA place cs (ps.toList.map fun p => (p.1, F.ev p.2)) = some r) : Yields E0 w0 Z lab d G F a w P o (.agg r) := by
  obtain ⟨i, z, h1, h2, rfl, hp, hl⟩ := tzero_info hz
  have hPW : PW G (absV z).cells z.cells := ⟨hl.symm, hp, absV_cells G z hp⟩
  have hni : NoId (.agg r) := by
    rintro n ⟨y, hy, rows, nl, rfl⟩
    exact fillA_noId _ _ _ (tzero_noId hz) hr _ hy rows nl n rfl
  have hfin : ∀ us : Array Value, PW G r us → R1 G.S G.E (.agg r) (.agg us) := fun us hu => by
    have : us = us.toList.toArray := by simp
    rw [this]
    exact .agg r us.toList (by simpa using hu.1) hu.2.1 (fun j x v hx hv => hu.2.2 j x v hx (by simpa using hv))
  have hmap : (ps.map fun x : Nat × Operand => (x.1, a.eval x.2)).toList = ps.toList.map fun p => (p.1, a.eval p.2) := by simp
  unfold buildPlace at hb
  split at hb
  · rename_i fs hu
    split at hb
    · rename_i hall
      have := Option.some.inj hb; subst this
      obtain ⟨us, e1, e2⟩ := fill_R h (place' := fun i => (fs.map fun f => (f.offset, P.cellsOf f.type))[i]?) (fun i x hx => by simpa using hx) ps.toList _ _ r hPW hr
      refine Yields.same h hd (v := .agg us) ?_ (.of_noId (hfin us e2) hni)
      have hrun := run_places (P := P) hall w
      simp only [execOp, ho, Instr.build, Sem.run_bind, run_zero h1 h2, Result.andThen_ok, run_underlying hu, hrun]
      have e1' : Instr.fill (fun x => (fs.map fun f => (f.offset, P.cellsOf f.type))[x]?) z.cells (ps.map fun x : Nat × Operand => (x.1, a.eval x.2)).toList = some us := by rw [hmap]; exact e1
      simp [e1']
      simp at e1'
      simp [e1']
    · cases hb
  · rename_i n e hu
    simp only [Option.map_eq_some_iff] at hb
    obtain ⟨s, hs, rfl⟩ := hb
    obtain ⟨us, e1, e2⟩ := fill_R h (place' := fun i => some (i * s, s)) (fun i x hx => hx) ps.toList _ _ r hPW hr
    refine Yields.same h hd (v := .agg us) ?_ (.of_noId (hfin us e2) hni)
    have e1' : Instr.fill (fun i => some (i * s, s)) z.cells (ps.map fun x : Nat × Operand => (x.1, a.eval x.2)).toList = some us := by rw [hmap]; exact e1
    simp only [execOp, ho, Instr.build, Sem.run_bind, run_zero h1 h2, Result.andThen_ok, run_underlying hu, run_tsz hs]
    simp [e1']
    simp at e1'
    simp [e1']
  · cases hb
end
end Go.Proofs.V
