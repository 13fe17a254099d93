/- The quiet operations: literals, conversions; all of them together. -/
import Derived.Test.YtnjfjjmlonalhaaDoorK2
namespace Go.Proofs.V
open Go Go.RowKit
set_option linter.unusedVariables false
set_option linter.unusedSimpArgs false

section
variable {E0 : Nat → Prop} {w0 : Ent} {Z : Nat → Prop} {G : Gh} {F : St} {a : Act} {w : World} {P : Program} {lab : Nat} {d : Nat}

/-! ### Parts of a literal -/
theorem foldl_set (vs : List Value) : ∀ (k off : Nat) (cs : Array Value) (j : Nat), ((vs.zipIdx k).foldl (fun (cs : Array Value) (x : Value × Nat) => cs.setIfInBounds (off + x.2) x.1) cs)[j]? = if off + k ≤ j ∧ j < off + k + vs.length ∧ j < cs.size then vs[j - (off + k)]? else cs[j]? := by
  induction vs with
  | nil => intro k off cs j; simp; omega
  | cons v vs ih =>
    intro k off cs j
    simp only [List.zipIdx_cons, List.foldl_cons]
    rw [ih]
    simp only [Array.size_setIfInBounds, List.length_cons]
    by_cases h1 : j = off + k
    · subst h1
      rw [if_neg (by omega)]
      by_cases h2 : off + k < cs.size
      · rw [if_pos ⟨by omega, by omega, h2⟩]
        simp [h2]
      · rw [if_neg (by omega)]
        rw [Array.getElem?_eq_none (by simpa using h2), Array.getElem?_eq_none (by omega)]
    · by_cases h3 : off + (k + 1) ≤ j ∧ j < off + (k + 1) + vs.length ∧ j < cs.size
      · rw [if_pos h3, if_pos (by omega)]
        rw [show j - (off + k) = (j - (off + (k + 1))) + 1 by omega]
        simp
      · rw [if_neg h3, if_neg (by omega), Array.getElem?_setIfInBounds_ne (by omega)]
theorem foldl_size (vs : List Value) : ∀ (k off : Nat) (cs : Array Value), ((vs.zipIdx k).foldl (fun (cs : Array Value) (x : Value × Nat) => cs.setIfInBounds (off + x.2) x.1) cs).size = cs.size := by
  induction vs with
  | nil => intro k off cs; rfl
  | cons v vs ih => intro k off cs; simp only [List.zipIdx_cons, List.foldl_cons]; rw [ih]; simp

theorem fill_step (vc : Array Value) (off : Nat) (cells : Array Value) (j : Nat) (hfit : off + vc.size ≤ cells.size) : (vc.zipIdx.foldl (fun cs (c, j) => cs.setIfInBounds (off + j) c) cells)[j]? = if off ≤ j ∧ j < off + vc.size then vc[j - off]? else cells[j]? := by
  have h := foldl_set vc.toList 0 off cells j
  have e : vc.zipIdx.foldl (fun cs (c, j) => cs.setIfInBounds (off + j) c) cells = (vc.toList.zipIdx 0).foldl (fun (cs : Array Value) (x : Value × Nat) => cs.setIfInBounds (off + x.2) x.1) cells := by
    rw [← Array.foldl_toList, Array.toList_zipIdx]
  rw [e, h]
  simp only [Nat.add_zero, Array.length_toList, Array.getElem?_toList]
  by_cases h1 : off ≤ j ∧ j < off + vc.size
  · rw [if_pos ⟨h1.1, h1.2, by omega⟩, if_pos h1]
  · rw [if_neg (by omega), if_neg h1]
theorem fill_step_size (vc : Array Value) (off : Nat) (cells : Array Value) : (vc.zipIdx.foldl (fun cs (c, j) => cs.setIfInBounds (off + j) c) cells).size = cells.size := by
  have e : vc.zipIdx.foldl (fun cs (c, j) => cs.setIfInBounds (off + j) c) cells = (vc.toList.zipIdx 0).foldl (fun (cs : Array Value) (x : Value × Nat) => cs.setIfInBounds (off + x.2) x.1) cells := by
    rw [← Array.foldl_toList, Array.toList_zipIdx]
  rw [e, foldl_size]

theorem splice_get (row : List AV) (off : Nat) (cs : List AV) (h : off + cs.length ≤ row.length) (j : Nat) : (splice row off cs)[j]? = if off ≤ j ∧ j < off + cs.length then cs[j - off]? else row[j]? := by
  unfold splice
  by_cases h1 : j < off
  · rw [List.getElem?_append_left (by simp; omega), List.getElem?_append_left (by simp; omega), List.getElem?_take, if_pos h1, if_neg (by omega)]
  · by_cases h2 : j < off + cs.length
    · rw [List.getElem?_append_left (by simp; omega), List.getElem?_append_right (by simp; omega), if_pos ⟨by omega, h2⟩]
      congr 1; simp; omega
    · rw [List.getElem?_append_right (by simp; omega), if_neg (by omega), List.getElem?_drop]
      congr 1; simp; omega
theorem splice_len (row : List AV) (off : Nat) (cs : List AV) (h : off + cs.length ≤ row.length) : (splice row off cs).length = row.length := by
  unfold splice; simp; omega

/-- One part goes in. -/
theorem PW.splice {cs : List AV} {vs : Array Value} (h : PW G cs vs) {xs : List AV} {us : Array Value} (hx : PW G xs us) {off : Nat} (hfit : off + xs.length ≤ cs.length) :
    PW G (splice cs off xs) (us.zipIdx.foldl (fun cs (c, j) => cs.setIfInBounds (off + j) c) vs) := by
  refine ⟨by rw [fill_step_size, splice_len _ _ _ hfit]; exact h.1, ?_, ?_⟩
  · intro x hm
    obtain ⟨j, hj⟩ := List.getElem?_of_mem hm
    rw [splice_get _ _ _ hfit] at hj
    split at hj
    · exact hx.2.1 x (List.mem_of_getElem? hj)
    · exact h.2.1 x (List.mem_of_getElem? hj)
  · intro j x v hj hv
    rw [splice_get _ _ _ hfit] at hj
    rw [fill_step _ _ _ _ (by rw [hx.1, h.1]; exact hfit), hx.1] at hv
    split at hj
    · rename_i hc; rw [if_pos hc] at hv; exact hx.2.2 _ _ _ hj hv
    · rename_i hc; rw [if_neg hc] at hv; exact h.2.2 _ _ _ hj hv

theorem fill_R (h : Inv E0 w0 Z G F a w) {place place' : Nat → Option (Nat × Nat)} (hpl : ∀ i x, place i = some x → place' i = some x) : ∀ (ps : List (Nat × Operand)) (cs : List AV) (vs : Array Value) (r : List AV), PW G cs vs → fillA place cs (ps.map fun p => (p.1, F.ev p.2)) = some r →
    ∃ us, Instr.fill place' vs (ps.map fun p => (p.1, a.eval p.2)) = some us ∧ PW G r us
  | [], cs, vs, r, hp, hr => ⟨vs, rfl, by simp [fillA] at hr; subst hr; exact hp⟩
  | (i, x) :: ps, cs, vs, r, hp, hr => by
    simp only [List.map_cons, fillA] at hr
    split at hr
    · cases hr
    · rename_i off size hpi
      split at hr
      · rename_i hc
        simp only [Bool.and_eq_true, beq_iff_eq, decide_eq_true_eq] at hc
        obtain ⟨⟨hs, hlen⟩, hfit⟩ := hc
        have hxr := opd_R1 (opd h x) (storable_free hs)
        have hcells := cells_R1 hxr hs
        have hp' := hp.splice hcells.strip (off := off) (by simpa [hlen] using hfit)
        obtain ⟨us, h1, h2⟩ := fill_R h hpl ps _ _ r hp' hr
        refine ⟨us, ?_, h2⟩
        simp only [List.map_cons, Instr.fill, hpl _ _ hpi]
        rw [if_neg (by rw [hcells.1, hlen, hp.1]; simp; omega)]
        exact h1
      · cases hr

theorem fillA_noId {place : Nat → Option (Nat × Nat)} : ∀ (ps : List (Nat × AV)) (cs r : List AV), (∀ y ∈ cs, ∀ rows nl n, y ≠ .slice rows nl (.id n)) → fillA place cs ps = some r → ∀ y ∈ r, ∀ rows nl n, y ≠ .slice rows nl (.id n)
  | [], cs, r, h, hr => by simp [fillA] at hr; subst hr; exact h
  | (i, x) :: ps, cs, r, h, hr => by
    simp only [fillA] at hr
    split at hr
    · cases hr
    · rename_i off size hpi
      split at hr
      · rename_i hc
        simp only [Bool.and_eq_true, beq_iff_eq, decide_eq_true_eq] at hc
        refine fillA_noId ps _ r (fun y hy => ?_) hr
        unfold splice at hy
        simp only [List.mem_append] at hy
        rcases hy with (hy | hy) | hy
        · exact h y (List.mem_of_mem_take hy)
        · obtain ⟨u, _, rfl⟩ := List.mem_map.1 hy
          exact noId_strip1 u
        · exact h y (List.mem_of_mem_drop hy)
      · cases hr

theorem tzero_noId {e : TypeId} {cs : List AV} (hc : tzero P e = some cs) : ∀ y ∈ cs, ∀ rows nl n, y ≠ .slice rows nl (.id n) := by
  obtain ⟨i, z, h1, h2, rfl, hp, hl⟩ := tzero_info hc
  intro y hy rows nl n he
  subst he
  unfold AV.cells at hy
  split at hy
  · rename_i cs hcs
    exact noId_absV z n ⟨_, by rw [hcs]; exact hy, rows, nl, rfl⟩
  · rename_i hna
    simp at hy
    exact noId_absV z n ⟨.slice rows nl (.id n), by rw [← hy]; simp [parts], rows, nl, rfl⟩

theorem run_places {fs : Array Field} (hall : fs.toList.all (fun f => (P.info? f.type).isSome) = true) (w : World) : (fs.mapM (fun (f : Field) => (do pure (f.offset, ← sizeOf f.type) : Sem (Nat × Nat)))).run P w = .ok (fs.map fun f => (f.offset, P.cellsOf f.type)) w := by
  rw [Array.mapM_eq_mapM_toList]
  have key : ∀ l : List Field, l.all (fun f => (P.info? f.type).isSome) = true → (l.mapM (fun (f : Field) => (do pure (f.offset, ← sizeOf f.type) : Sem (Nat × Nat)))).run P w = .ok (l.map fun f => (f.offset, P.cellsOf f.type)) w := by
    intro l
    induction l with
    | nil => intro _; simp
    | cons f l ih =>
      intro h
      simp only [List.all_cons, Bool.and_eq_true] at h
      obtain ⟨i, hi⟩ := Option.isSome_iff_exists.1 h.1
      simp only [List.mapM_cons, Sem.run_bind, run_sizeOf _ hi, Result.andThen_ok, Sem.run_pure, ih h.2, List.map_cons]
  simp only [Sem.run_map, key _ hall, Result.andThen_ok]
  congr 1
  apply Array.ext'
  simp

theorem q_build (h : Inv E0 w0 Z G F a w) (hd : d < F.n) {o : Oper} {t : TypeId} {ps : Array (Nat × Operand)} (ho : o.op = .build t ps) {cs r : List AV} {place : Nat → Option (Nat × Nat)} (hz : tzero P t = some cs) (hb : buildPlace P t = some place)
    (hr : fillA place cs (ps.toList.map fun p => (p.1, F.ev p.2)) = some r) : Yields E0 w0 Z lab d G F a w P o (.agg r) := by
  obtain ⟨i, z, h1, h2, rfl, hp, hl⟩ := tzero_info hz
  have hPW : PW G (absV z).cells z.cells := ⟨hl.symm, hp, absV_cells G z hp⟩
  have hni : NoId (.agg r) := by
    rintro n ⟨y, hy, rows, nl, rfl⟩
    exact fillA_noId _ _ _ (tzero_noId hz) hr _ hy rows nl n rfl
  have hfin : ∀ us : Array Value, PW G r us → R1 G.S G.E (.agg r) (.agg us) := fun us hu => by
    have : us = us.toList.toArray := by simp
    rw [this]
    exact .agg r us.toList (by simpa using hu.1) hu.2.1 (fun j x v hx hv => hu.2.2 j x v hx (by simpa using hv))
  have hmap : (ps.map fun x : Nat × Operand => (x.1, a.eval x.2)).toList = ps.toList.map fun p => (p.1, a.eval p.2) := by simp
  unfold buildPlace at hb
  split at hb
  · rename_i fs hu
    split at hb
    · rename_i hall
      have := Option.some.inj hb; subst this
      obtain ⟨us, e1, e2⟩ := fill_R h (place' := fun i => (fs.map fun f => (f.offset, P.cellsOf f.type))[i]?) (fun i x hx => by simpa using hx) ps.toList _ _ r hPW hr
      refine Yields.same h hd (v := .agg us) ?_ (.of_noId (hfin us e2) hni)
      have hrun := run_places (P := P) hall w
      simp only [execOp, ho, Instr.build, Sem.run_bind, run_zero h1 h2, Result.andThen_ok, run_underlying hu, hrun]
      have e1' : Instr.fill (fun x => (fs.map fun f => (f.offset, P.cellsOf f.type))[x]?) z.cells (ps.map fun x : Nat × Operand => (x.1, a.eval x.2)).toList = some us := by rw [hmap]; exact e1
      simp [e1']
      simp at e1'
      simp [e1']
    · cases hb
  · rename_i n e hu
    simp only [Option.map_eq_some_iff] at hb
    obtain ⟨s, hs, rfl⟩ := hb
    obtain ⟨us, e1, e2⟩ := fill_R h (place' := fun i => some (i * s, s)) (fun i x hx => hx) ps.toList _ _ r hPW hr
    refine Yields.same h hd (v := .agg us) ?_ (.of_noId (hfin us e2) hni)
    have e1' : Instr.fill (fun i => some (i * s, s)) z.cells (ps.map fun x : Nat × Operand => (x.1, a.eval x.2)).toList = some us := by rw [hmap]; exact e1
    simp only [execOp, ho, Instr.build, Sem.run_bind, run_zero h1 h2, Result.andThen_ok, run_underlying hu, run_tsz hs]
    simp [e1']
    simp at e1'
    simp [e1']
  · cases hb
end
end Go.Proofs.V
namespace Go.Proofs.V
open Go Go.RowKit
set_option linter.unusedVariables false
set_option linter.unusedSimpArgs false

section
variable {E0 : Nat → Prop} {w0 : Ent} {Z : Nat → Prop} {G : Gh} {F : St} {a : Act} {w : World} {P : Program} {lab : Nat} {d : Nat}

/-- Rows against cells that lie one behind the other. -/
def RW (G : Gh) (sz : Nat) (rows : List (List AV)) (vs : Array Value) : Prop :=
  vs.size = rows.length * sz ∧ (∀ r ∈ rows, r.length = sz) ∧ (∀ i j x, cellAt rows i j = some x → x.plain = true) ∧ ∀ i j x, cellAt rows i j = some x → ∃ v, vs[i * sz + j]? = some v ∧ R1 G.S G.E x v

theorem cellAt_lt {rows : List (List AV)} {sz i j : Nat} {x : AV} (h : cellAt rows i j = some x) (hsz : ∀ r ∈ rows, r.length = sz) : i < rows.length ∧ j < sz := by
  unfold cellAt at h
  obtain ⟨r, h1, h2⟩ := Option.bind_eq_some_iff.1 h
  exact ⟨(List.getElem?_eq_some_iff.1 h1).1, by rw [← hsz r (List.mem_of_getElem? h1)]; exact (List.getElem?_eq_some_iff.1 h2).1⟩

theorem idx_apart {sz i i' j : Nat} (hj : j < sz) (h : ¬ i' = i) : ¬ (i * sz ≤ i' * sz + j ∧ i' * sz + j < i * sz + sz) := by
  rintro ⟨h1, h2⟩
  rcases Nat.lt_or_gt_of_ne h with h | h
  · have : (i' + 1) * sz ≤ i * sz := Nat.mul_le_mul_right _ h
    rw [Nat.add_mul] at this; omega
  · have : (i + 1) * sz ≤ i' * sz := Nat.mul_le_mul_right _ h
    rw [Nat.add_mul] at this; omega

theorem RW.set {sz : Nat} {rows : List (List AV)} {vs : Array Value} (h : RW G sz rows vs) {xs : List AV} {us : Array Value} (hx : PW G xs us) (hl : xs.length = sz) {i : Nat} (hi : i < rows.length) :
    RW G sz (rows.set i xs) (us.zipIdx.foldl (fun cs (c, j) => cs.setIfInBounds (i * sz + j) c) vs) := by
  have hfit : i * sz + us.size ≤ vs.size := by
    rw [hx.1, hl, h.1]
    have : (i + 1) * sz ≤ rows.length * sz := Nat.mul_le_mul_right _ hi
    rw [Nat.add_mul] at this; omega
  have hall : ∀ r ∈ rows.set i xs, r.length = sz := by
    intro r hr
    rcases List.mem_or_eq_of_mem_set hr with hr | hr
    · exact h.2.1 r hr
    · rw [hr]; exact hl
  have hcell : ∀ i' j, cellAt (rows.set i xs) i' j = if i' = i then xs[j]? else cellAt rows i' j := by
    intro i' j
    unfold cellAt
    by_cases h1 : i' = i
    · subst h1; simp [hi]
    · rw [if_neg h1, List.getElem?_set_ne (Ne.symm h1)]
  refine ⟨by rw [fill_step_size]; simpa using h.1, hall, ?_, ?_⟩
  · intro i' j x hxx
    rw [hcell] at hxx
    split at hxx
    · exact hx.2.1 x (List.mem_of_getElem? hxx)
    · exact h.2.2.1 _ _ _ hxx
  · intro i' j x hxx
    have hlt := cellAt_lt hxx hall
    rw [hcell] at hxx
    rw [fill_step _ _ _ _ hfit, hx.1, hl]
    split at hxx
    · rename_i h1
      subst h1
      rw [if_pos ⟨by omega, by omega⟩]
      obtain ⟨v, e1, e2⟩ := hx.val hxx
      exact ⟨v, by rw [show i' * sz + j - i' * sz = j by omega]; exact e1, e2⟩
    · rename_i h1
      rw [if_neg (idx_apart hlt.2 h1)]
      exact h.2.2.2 _ _ _ hxx

theorem fillRows_R (h : Inv E0 w0 Z G F a w) {sz : Nat} : ∀ (ps : List (Nat × Operand)) (rows : List (List AV)) (vs : Array Value) (r : List (List AV)), RW G sz rows vs → fillRows sz rows (ps.map fun p => (p.1, F.ev p.2)) = some r →
    ∃ us, Instr.fill (fun i => some (i * sz, sz)) vs (ps.map fun p => (p.1, a.eval p.2)) = some us ∧ RW G sz r us ∧ r.length = rows.length
  | [], rows, vs, r, hp, hr => ⟨vs, rfl, by simp [fillRows] at hr; subst hr; exact ⟨hp, rfl⟩⟩
  | (i, x) :: ps, rows, vs, r, hp, hr => by
    simp only [List.map_cons, fillRows] at hr
    split at hr
    · rename_i hc
      simp only [Bool.and_eq_true, beq_iff_eq, decide_eq_true_eq] at hc
      obtain ⟨⟨hs, hlen⟩, hi⟩ := hc
      have hxr := opd_R1 (opd h x) (storable_free hs)
      have hcells := cells_R1 hxr hs
      have hp' := hp.set hcells.strip (by simpa using hlen) hi
      obtain ⟨us, h1, h2, h3⟩ := fillRows_R h ps _ _ r hp' hr
      refine ⟨us, ?_, h2, by simpa using h3⟩
      have hfit : i * sz + sz ≤ vs.size := by
        rw [hp.1]
        have : (i + 1) * sz ≤ rows.length * sz := Nat.mul_le_mul_right _ hi
        rw [Nat.add_mul] at this; omega
      simp only [List.map_cons, Instr.fill]
      rw [if_neg (by rw [hcells.1, hlen]; simp; omega)]
      exact h1
    · cases hr

/-- A new row that holds rows. -/
theorem RW.slice {sz : Nat} {rows : List (List AV)} {vs : Array Value} (h : RW G sz rows vs) (b : Nat) (hS : ∀ ad v, G.S ad = some v → (G.addRow b vs).S ad = some v) (own : Own) (cap : Nat) (hcap : rows.length ≤ cap) (hfull : own = .full → cap = rows.length) :
    R1 (G.addRow b vs).S G.E (.slice rows false own) (.slice (some ⟨b, 0, none⟩) rows.length cap) :=
  .slice rows own b 0 cap sz (fun i j => vs.getD (i * sz + j) Go.undef) hcap h.2.1 hfull h.2.2.1
    (fun i j x hx => by
      obtain ⟨v, e1, e2⟩ := h.2.2.2 i j x hx
      have hlt : i * sz + j < vs.size := (Array.getElem?_eq_some_iff.1 e1).1
      simp [Gh.addRow, Array.getD, hlt])
    (fun i j x hx => by
      obtain ⟨v, e1, e2⟩ := h.2.2.2 i j x hx
      have hlt : i * sz + j < vs.size := (Array.getElem?_eq_some_iff.1 e1).1
      have : vs.getD (i * sz + j) Go.undef = v := by
        rw [Array.getElem?_eq_getElem hlt] at e1
        simp [Array.getD, hlt]; exact Option.some.inj e1
      rw [this]
      exact R1.mono hS (fun l b h => h) e2)

theorem replicate_RW {zv : Value} {sz : Nat} (hp : ∀ x ∈ (absV zv).cells, AV.plain x = true) (hl : (absV zv).cells.length = zv.cells.size) (hzl : (absV zv).cells.length = sz) (hne : sz ≠ 0) (len : Nat) :
    RW G sz (List.replicate len (absV zv).cells) ((Array.range (len * sz)).map ((if len * sz = 0 then #[] else zv.cells)[· % (if len * sz = 0 then #[] else zv.cells).size]!)) := by
  have hzs : zv.cells.size = sz := by rw [← hl, hzl]
  have hPW : PW G (absV zv).cells zv.cells := ⟨hl.symm, hp, absV_cells G zv hp⟩
  let z0 : Array Value := if len * sz = 0 then #[] else zv.cells
  let flat : Array Value := (Array.range (len * sz)).map (z0[· % z0.size]!)
  have h0 : RW G sz (List.replicate len (absV zv).cells) flat := by
    refine ⟨by simp [flat], ?_, ?_, ?_⟩
    · intro r hr; exact (congrArg List.length (List.eq_of_mem_replicate hr)).trans hzl
    · intro i j x hx
      unfold cellAt at hx
      obtain ⟨r, e1, e2⟩ := Option.bind_eq_some_iff.1 hx
      have := List.eq_of_mem_replicate (List.mem_of_getElem? e1)
      subst this
      exact hp x (List.mem_of_getElem? e2)
    · intro i j x hx
      have hlt := cellAt_lt (sz := sz) hx (fun r hr => (congrArg List.length (List.eq_of_mem_replicate hr)).trans hzl)
      unfold cellAt at hx
      obtain ⟨r, e1, e2⟩ := Option.bind_eq_some_iff.1 hx
      have := List.eq_of_mem_replicate (List.mem_of_getElem? e1)
      subst this
      obtain ⟨v, e3, e4⟩ := hPW.val e2
      have hi : i < len := by simpa using hlt.1
      have hidx : i * sz + j < len * sz := by
        have : (i + 1) * sz ≤ len * sz := Nat.mul_le_mul_right _ hi
        rw [Nat.add_mul] at this; omega
      refine ⟨v, ?_, e4⟩
      have hz0 : z0 = zv.cells := by simp only [z0]; rw [if_neg (by omega)]
      have hmod : (i * sz + j) % sz = j := by rw [Nat.mul_comm, Nat.mul_add_mod, Nat.mod_eq_of_lt hlt.2]
      simp only [flat, Array.getElem?_map, hz0, hzs]
      rw [Array.getElem?_eq_getElem (by simpa using hidx)]
      simp only [Array.getElem_range, Option.map_some, hmod]
      have hj : j < zv.cells.size := by rw [hzs]; exact hlt.2
      rw [getElem!_pos zv.cells j hj]
      rw [Array.getElem?_eq_getElem hj] at e3
      exact e3
  exact h0
theorem buildSlice_run (h : Inv E0 w0 Z G F a w) {o : Oper} {t e : TypeId} {len : Nat} {ps : Array (Nat × Operand)} (ho : o.op = .buildSlice t len ps) (he : tel P t = some e) {z : List AV} {sz : Nat} (hze : tzero P e = some z) (hsz : tsz P e = some sz)
    (hc : z.length = sz ∧ len * sz ≤ 16777216 ∧ sz ≠ 0) {rows : List (List AV)} (hr : fillRows sz (List.replicate len z) (ps.toList.map fun p => (p.1, F.ev p.2)) = some rows) : ∃ us ty, (execOp a.eval o).run P w = .ok (.value (.slice (some ⟨w.heap.size, 0, none⟩) rows.length rows.length)) (w.alloc (.cells us ty)) ∧ RW G sz rows us := by
  obtain ⟨i, zv, h1, h2, rfl, hp, hl⟩ := tzero_info hze
  obtain ⟨hzl, hbig, hne⟩ := hc
  have hzs : zv.cells.size = sz := by rw [← hl, hzl]
  have hPW : PW G (absV zv).cells zv.cells := ⟨hl.symm, hp, absV_cells G zv hp⟩
  let z0 : Array Value := if len * sz = 0 then #[] else zv.cells
  let flat : Array Value := (Array.range (len * sz)).map (z0[· % z0.size]!)
  have h0 : RW G sz (List.replicate len (absV zv).cells) flat := replicate_RW hp hl hzl hne len
  obtain ⟨us, e1, e2, e3⟩ := fillRows_R h ps.toList _ _ rows h0 hr
  have hlen : rows.length = len := by simpa using e3
  have hmap : (ps.map fun x : Nat × Operand => (x.1, a.eval x.2)).toList = ps.toList.map fun p => (p.1, a.eval p.2) := by simp
  have hrun : (execOp a.eval o).run P w = .ok (.value (.slice (some ⟨w.heap.size, 0, none⟩) rows.length rows.length)) (w.alloc (.cells us e)) := by
    have hnb : ¬ (len * sz > 2 ^ 24) := by omega
    have e1' : Instr.fill (fun i => some (i * sz, sz)) flat (ps.map fun x : Nat × Operand => (x.1, a.eval x.2)).toList = some us := by rw [hmap]; exact e1
    simp only [execOp, ho, Instr.buildSlice, Sem.run_bind, run_underlying (tel_und he), Result.andThen_ok, run_tsz hsz]
    rw [if_neg hnb]
    by_cases h00 : len * sz = 0
    · have hz0 : z0 = #[] := by simp only [z0]; rw [if_pos h00]
      simp only [flat, hz0] at e1'
      simp only [h00, if_true, Sem.run_bind, Sem.run_pure, Result.andThen_ok]
      rw [h00] at e1'
      simp only [e1']
      simp [newRow, hlen]
    · have hz0 : z0 = zv.cells := by simp only [z0]; rw [if_neg h00]
      simp only [flat, hz0] at e1'
      simp only [h00, if_false, Sem.run_bind, run_zero h1 h2, Sem.run_pure, Result.andThen_ok]
      simp only [e1']
      simp [newRow, hlen]
  exact ⟨us, e, hrun, e2⟩
theorem q_buildSlice (h : Inv E0 w0 Z G F a w) (hz : ∀ n, Z1 lab n → ¬ Z n) (hd : d < F.n) {o : Oper} {t e : TypeId} {len : Nat} {ps : Array (Nat × Operand)} (ho : o.op = .buildSlice t len ps) (he : tel P t = some e) {z : List AV} {sz : Nat} (hze : tzero P e = some z) (hsz : tsz P e = some sz)
    (hc : z.length = sz ∧ len * sz ≤ 16777216 ∧ sz ≠ 0) {rows : List (List AV)} (hr : fillRows sz (List.replicate len z) (ps.toList.map fun p => (p.1, F.ev p.2)) = some rows) : Yields E0 w0 Z lab d G F a w P o (.slice rows false .full) := by
  obtain ⟨us, e', hrun, e2⟩ := buildSlice_run (P := P) h ho he hze hsz hc hr
  refine Yields.row h hz hd hrun (e2.slice w.heap.size (grow_row (lab := lab) h us e').S .full rows.length (Nat.le_refl _) (fun _ => rfl)) ?_
  rintro n ⟨y, hy, rows, nl, rfl⟩
  simp [parts] at hy

theorem makeSlice_run (h : Inv E0 w0 Z G F a w) {o : Oper} {t e : TypeId} {x y : Operand} (ho : o.op = .makeSlice t x y) (he : tel P t = some e) {n : Int} (hx : intOfA (F.ev x) = some n) (hy : intOfA (F.ev y) = some n) {z : List AV} {sz by_ : Nat} (hze : tzero P e = some z) (hsz : tsz P e = some sz) (hby : tby P e = some by_)
    (h0 : 0 ≤ n) (h1 : n ≤ 35184372088832) (h2 : n.toNat * by_ ≤ 35184372088832) (hzl : z.length = sz) (hne : sz ≠ 0) :
    ∃ us ty, (execOp a.eval o).run P w = .ok (.value (.slice (some ⟨w.heap.size, 0, none⟩) (List.replicate n.toNat z).length (List.replicate n.toNat z).length)) (w.alloc (.cells us ty)) ∧ RW G sz (List.replicate n.toNat z) us := by
  obtain ⟨i, zv, q1, q2, rfl, hp, hl⟩ := tzero_info hze
  obtain ⟨k, hk⟩ := int_opd (opd h x).rv hx
  obtain ⟨k', hk'⟩ := int_opd (opd h y).rv hy
  refine ⟨_, e, ?_, replicate_RW hp hl hzl hne n.toNat⟩
  have hwrap : IntKind.i64.wrap n = n := by
    have hb : (IntKind.i64.bits : Nat) = 64 := rfl
    have hsg : IntKind.i64.signed = true := rfl
    simp only [IntKind.wrap, hb, hsg]
    have e1 : n % (2 ^ 64 : Int) = n := Int.emod_eq_of_lt h0 (by omega)
    rw [e1, if_neg]
    simp only [Bool.true_and, ge_iff_le, decide_eq_true_eq]
    omega
  obtain ⟨i', hi', hib⟩ : ∃ i', P.info? e = some i' ∧ i'.bytes = by_ := by unfold tby at hby; simpa [Option.map_eq_some_iff] using hby
  rw [q1] at hi'
  have := Option.some.inj hi'; subst this
  have hti : ∀ w : World, (typeInfo e).run P w = .ok i w := fun w => by simp [typeInfo, Sem.run_bind, q1]
  have hbig : ((i.bytes : Int) * n > 2 ^ 48) = False := by
    rw [hib]
    have e2 : ((by_ : Int) * n) = ((n.toNat * by_ : Nat) : Int) := by
      rw [Int.natCast_mul, Int.toNat_of_nonneg h0, Int.mul_comm]
    rw [e2]
    simp only [eq_iff_iff, iff_false, gt_iff_lt, Int.not_lt]
    omega
  have hneg : (n < 0) = False := by simp only [eq_iff_iff, iff_false]; omega
  simp only [execOp, ho, Instr.makeSlice, Sem.run_bind, run_underlying (tel_und he), Result.andThen_ok, hk, hk', asInt, asIntOf, Sem.run_pure, hti, hwrap]
  simp only [hbig, hneg, decide_false, Bool.or_false, Int.lt_irrefl, gt_iff_lt, Bool.false_eq_true, if_false, Sem.run_bind, run_askRoom, Result.andThen_ok, run_tsz hsz]
  by_cases h00 : n.toNat * sz = 0
  · simp [h00, Sem.run_bind, newRow, List.length_replicate]
  · simp [h00, Sem.run_bind, run_zero q1 q2, newRow, List.length_replicate]
theorem q_makeSlice (h : Inv E0 w0 Z G F a w) (hz : ∀ n, Z1 lab n → ¬ Z n) (hd : d < F.n) {o : Oper} {t e : TypeId} {x y : Operand} (ho : o.op = .makeSlice t x y) (he : tel P t = some e) {n : Int} (hx : intOfA (F.ev x) = some n) (hy : intOfA (F.ev y) = some n) {z : List AV} {sz by_ : Nat} (hze : tzero P e = some z) (hsz : tsz P e = some sz) (hby : tby P e = some by_)
    (h0 : 0 ≤ n) (h1 : n ≤ 35184372088832) (h2 : n.toNat * by_ ≤ 35184372088832) (hzl : z.length = sz) (hne : sz ≠ 0) : Yields E0 w0 Z lab d G F a w P o (.slice (List.replicate n.toNat z) false .full) := by
  obtain ⟨us, e', hrun, e2⟩ := makeSlice_run (P := P) h ho he hx hy hze hsz hby h0 h1 h2 hzl hne
  refine Yields.row h hz hd hrun (e2.slice w.heap.size (grow_row (lab := lab) h us e').S .full _ (Nat.le_refl _) (fun _ => rfl)) ?_
  rintro n ⟨y, hy, rows, nl, rfl⟩
  simp [parts] at hy

theorem bytesOf_cells {rows : List (List AV)} {bs : List UInt8} (h : bytesOf rows = some bs) : ∃ ns : List Int, rows = ns.map (fun n => [AV.at (.int .u8 n)]) ∧ bs = ns.map fun n => UInt8.ofNat n.toNat := by
  induction rows generalizing bs with
  | nil => simp [bytesOf] at h; subst h; exact ⟨[], rfl, rfl⟩
  | cons r rows ih =>
    unfold bytesOf at h
    split at h
    · rename_i e; cases e
    · rename_i n rest e
      cases e
      simp only [Option.map_eq_some_iff] at h
      obtain ⟨bs', h1, rfl⟩ := h
      obtain ⟨ns, e1, e2⟩ := ih h1
      exact ⟨n :: ns, by simp [e1], by simp [e2]⟩
    · cases h
theorem foldl_push (ns : List Int) : ∀ l : List UInt8, ns.foldl (fun (r : ByteArray) n => r.push (UInt8.ofNat n.toNat)) ⟨⟨l⟩⟩ = ⟨⟨l ++ ns.map fun n => UInt8.ofNat n.toNat⟩⟩ := by
  induction ns with
  | nil => intro l; simp
  | cons n ns ih =>
    intro l
    simp only [List.foldl_cons]
    have : (⟨⟨l⟩⟩ : ByteArray).push (UInt8.ofNat n.toNat) = ⟨⟨l ++ [UInt8.ofNat n.toNat]⟩⟩ := by simp [ByteArray.push]
    rw [this, ih]
    simp
theorem q_bytesStr (h : Inv E0 w0 Z G F a w) (hd : d < F.n) {o : Oper} {s t e : TypeId} {x : Operand} (ho : o.op = .convert s t x) (he : tel P s = some e) (hst : isStr P t = true) (hu8 : isU8 P e = true) {rows : List (List AV)} {nl : Bool} {own : Own} (hx : F.ev x = .slice rows nl own) {bs : List UInt8} (hb : bytesOf rows = some bs) :
    Yields E0 w0 Z lab d G F a w P o (.at (.string ⟨⟨bs⟩⟩)) := by
  have hxr := (opd h x).rv
  rw [hx] at hxr
  have hxr : R1 G.S G.E (.slice rows nl own) (a.eval x) := hxr
  refine Yields.same h hd (v := .string ⟨⟨bs⟩⟩) ?_ (.of_noId (.at _) (nid_at _))
  generalize hv : a.eval x = v at *
  obtain ⟨ns, e1, e2⟩ := bytesOf_cells hb
  cases hxr with
  | nil =>
    have : bs = [] := by simpa [bytesOf] using hb.symm
    subst this
    simp only [execOp, ho, hv, Sem.run_bind, run_convert_bytes_string w s t e none 0 0 (tel_und he) (isU8_und hu8) (isStr_und hst), Conv.bytesToString, Sem.run_pure, Result.andThen_ok]
    rfl
  | slice _ _ b off cap sz val hlen hsz hfull hpl h1 h2 =>
    subst e1
    have hload : (loadCells ⟨b, off, none⟩ (ns.map fun n => [AV.at (.int .u8 n)]).length).run P w = .ok (ns.map (Value.int .u8)).toArray w := by
      have := run_loadCells_list (P := P) w ⟨b, off, none⟩ (ns.map (Value.int .u8)) (fun j v hv => by
        rw [List.getElem?_map] at hv
        simp only [Option.map_eq_some_iff] at hv
        obtain ⟨n, hn, rfl⟩ := hv
        have hc : cellAt (ns.map fun n => [AV.at (.int .u8 n)]) j 0 = some (.at (.int .u8 n)) := by simp [cellAt, hn]
        have hsz1 : sz = 1 := by
          have := hsz [AV.at (.int .u8 n)] (List.mem_map.2 ⟨n, List.mem_of_getElem? hn, rfl⟩)
          simpa using this.symm
        have h3 := h.mem _ _ (h1 j 0 _ hc)
        have h4 := h2 j 0 _ hc
        subst hsz1
        rw [add_none]
        generalize hval : val j 0 = u at *
        cases h4
        simpa using h3)
      simpa using this
    have := run_bytesToString (P := P) w ⟨b, off, none⟩ (ns.map fun n => [AV.at (.int .u8 n)]).length cap ns hload
    simp only [execOp, ho, hv, Sem.run_bind, run_convert_bytes_string w s t e _ _ _ (tel_und he) (isU8_und hu8) (isStr_und hst), this, Result.andThen_ok, Sem.run_pure]
    rw [show ByteArray.empty = ⟨⟨[]⟩⟩ from rfl, foldl_push]
    simp [e2]
end
end Go.Proofs.V
namespace Go.Proofs.V
open Go Go.RowKit
set_option linter.unusedVariables false
set_option linter.unusedSimpArgs false

section
variable {E0 : Nat → Prop} {w0 : Ent} {Z : Nat → Prop} {G : Gh} {F : St} {a : Act} {w : World} {P : Program} {lab : Nat} {d : Nat}

theorem grow_new (h : Inv E0 w0 Z G F a w) (vs : Array Value) {w' : World} (hsz : w'.heap.size = w.heap.size + 1) (hold : ∀ b, b < w.heap.size → w'.heap[b]? = w.heap[b]?) (hnew : ∀ o v, vs[o]? = some v → w'.cell? ⟨w.heap.size, o, none⟩ = some v)
    (hos : w'.os = w.os) (ht : w'.tape = w.tape) (hou : w'.output = w.output) : Grow (Z1 lab) G (G.addRow w.heap.size vs) w w' where
  S ad v hv := by
    have := h.mem.lt hv
    simp only [Gh.addRow]
    rw [if_neg (by rintro ⟨h1, _⟩; omega)]
    exact hv
  Snew ad hn hb := by
    simp only [Gh.addRow]
    rw [if_neg (by rintro ⟨h1, _⟩; omega)]
    exact hn
  mem ad v hv := by
    simp only [Gh.addRow] at hv
    split at hv
    · rename_i hb
      obtain ⟨b, o, s⟩ := ad
      obtain ⟨rfl, rfl⟩ := hb
      exact hnew o v hv
    · have := h.mem.lt hv
      rw [World.cell?_of_block (w := w) (hold _ this)]
      exact h.mem ad v hv
  B g b hb := hb
  Bnew g b h1 h2 := by rw [show (G.addRow w.heap.size vs).B g = G.B g from rfl, h1] at h2; cases h2
  E := rfl
  u b hb := rfl
  ulive b hb := by have := h.live b hb; omega
  ρ n hn := rfl
  heap := hold
  size := by omega
  os := hos
  tape := ht
  output := hou
theorem Yields.new (h : Inv E0 w0 Z G F a w) (hz : ∀ n, Z1 lab n → ¬ Z n) {d : Nat} (hd : d < F.n) {o : Oper} {x : AV} {v : Value} {vs : Array Value} {w' : World} (hrun : (execOp a.eval o).run P w = .ok (.value v) w') (hg : Grow (Z1 lab) G (G.addRow w.heap.size vs) w w')
    (hx : R1 (G.addRow w.heap.size vs).S G.E x v) (hn : NoId x) : Yields E0 w0 Z lab d G F a w P o x := by
  refine ⟨v, _, G.addRow w.heap.size vs, hrun, ?_⟩
  have h1 := h.grow hg (notZ1 hz)
  have ho : Opd (G.addRow w.heap.size vs) F (fun n => Z n ∨ Z1 lab n) x v := .of_noId hx hn
  exact h1.set hd ho.nb ho.rv ho.cl ho.ids

theorem bytes_RW (s : List UInt8) (arr : Array Value) (harr : ∀ (j : Nat) (b : UInt8), s[j]? = some b → arr[j]? = some (.int .u8 b.toNat)) (b : Nat) (cap : Nat) (hcap : s.length ≤ cap) :
    R1 (G.addRow b arr).S G.E (.slice (s.map rowOfByte) false .no) (.slice (some ⟨b, 0, none⟩) s.length cap) := by
  have hcell : ∀ i j x, cellAt (s.map rowOfByte) i j = some x → j = 0 ∧ ∃ c, s[i]? = some c ∧ x = .at (.int .u8 c.toNat) := by
    intro i j x hx
    unfold cellAt at hx
    obtain ⟨r, e1, e2⟩ := Option.bind_eq_some_iff.1 hx
    rw [List.getElem?_map] at e1
    simp only [Option.map_eq_some_iff] at e1
    obtain ⟨c, hc, rfl⟩ := e1
    unfold rowOfByte at e2
    cases j with
    | zero => simp at e2; exact ⟨rfl, c, hc, e2.symm⟩
    | succ j => simp at e2
  have := R1.slice (S := (G.addRow b arr).S) (E := G.E) (s.map rowOfByte) .no b 0 cap 1 (fun i j => match s[i]? with | some c => .int .u8 c.toNat | none => Go.undef) (by simpa using hcap)
    (fun r hr => by obtain ⟨c, _, rfl⟩ := List.mem_map.1 hr; rfl) (by intro h; cases h)
    (fun i j x hx => by obtain ⟨_, c, _, rfl⟩ := hcell i j x hx; rfl)
    (fun i j x hx => by
      obtain ⟨rfl, c, hc, rfl⟩ := hcell i j x hx
      simp only [Gh.addRow, Nat.zero_add, Nat.mul_one, Nat.add_zero, true_and, if_true, hc]
      exact harr i c hc)
    (fun i j x hx => by
      obtain ⟨rfl, c, hc, rfl⟩ := hcell i j x hx
      simp only [hc]
      exact .at _)
  simpa using this

theorem q_strBytes (h : Inv E0 w0 Z G F a w) (hz : ∀ n, Z1 lab n → ¬ Z n) (hd : d < F.n) {o : Oper} {s t e : TypeId} {x : Operand} (ho : o.op = .convert s t x) (he : tel P t = some e) (hst : isStr P s = true) (hu8 : isU8 P e = true) {b : ByteArray} (hx : F.ev x = .at (.string b)) :
    Yields E0 w0 Z lab d G F a w P o (.slice (b.data.toList.map rowOfByte) false .no) := by
  have hxr := (opd h x).rv
  rw [hx] at hxr
  have hxr : R1 G.S G.E (.at (.string b)) (a.eval x) := hxr
  generalize hv : a.eval x = v at *
  cases hxr
  obtain ⟨cap, hcap, hc⟩ : ∃ cap, b.size ≤ cap ∧ (choose (.appendCap b.size 0 e)).run P w = .ok cap w.drew :=
    ⟨(Question.appendCap b.size 0 e).cut (w.tape w.drawn (.appendCap b.size 0 e)), Nat.le_add_right _ _, by rw [run_choose]; exact if_neg (by intro h; cases h)⟩
  obtain ⟨arr, harrd⟩ : ∃ arr : Array Value, arr = (b.data.map fun c => Value.int .u8 c.toNat) ++ Array.replicate (cap - b.size) (.int .u8 0) := ⟨_, rfl⟩
  have hbs : b.data.size = b.size := rfl
  obtain ⟨W, hW⟩ : ∃ W : World, W = (w.drew.alloc (.cells arr e)).freeze ⟨w.heap.size, arr.size, none⟩ 1 := ⟨_, rfl⟩
  have hheap : W.heap = (w.heap.push (.cells arr e)).modify w.heap.size fun
      | .cells c elem (lo, hi) => .cells c elem (if lo == hi then (arr.size, arr.size + 1) else (min lo arr.size, max hi (arr.size + 1)))
      | o => o := by rw [hW]; unfold World.freeze; rw [if_neg (by decide)]; rfl
  have hrun : (execOp a.eval o).run P w = .ok (.value (.slice (some ⟨w.heap.size, 0, none⟩) b.size cap)) W := by
    have hpat : (convert s t (.string b)).run P w = (Conv.stringToBytes e b).run P w := by
      simp [convert, Sem.run_bind, run_underlying (isStr_und hst), run_underlying (tel_und he), run_underlying (isU8_und hu8)]
    simp only [execOp, ho, hv, Sem.run_bind, hpat]
    have hshape : (w.drew.alloc (.cells arr e)).shape? w.heap.size = some (e, arr.size) := by
      show (match (w.heap.push (Obj.cells arr e))[w.heap.size]? with | some (.cells c elem _) => some (elem, c.size) | _ => none) = _
      simp
    have : (Conv.stringToBytes e b).run P w = .ok (.slice (some ⟨w.heap.size, 0, none⟩) b.size cap) W := by
      simp only [Conv.stringToBytes, Sem.run_bind, hc, Result.andThen_ok, newRow, run_newObj, Sem.run_pure, markStringish, run_shape, ← harrd]
      show ((match (w.drew.alloc (.cells arr e)).shape? w.heap.size with
        | some (_, n) => freeze { block := w.heap.size, off := n } 1
        | _ => pure ()).run P (w.drew.alloc (.cells arr e))).andThen _ = _
      rw [hshape, hW, harrd]
      rfl
    rw [this]
    rfl
  have hold : ∀ k, k < w.heap.size → W.heap[k]? = w.heap[k]? := by
    intro k hk
    rw [hheap, Array.getElem?_modify, if_neg (by omega)]
    exact Below.heap_alloc w _ k hk
  have hnew : ∀ o v, arr[o]? = some v → W.cell? ⟨w.heap.size, o, none⟩ = some v := by
    intro o v hv
    have : (w.heap.push (.cells arr e))[w.heap.size]? = some (.cells arr e (0, 0)) := by simp
    simp only [World.cell?, hheap, Array.getElem?_modify, if_true, this, Option.map_some]
    simpa using hv
  have hg := grow_new (lab := lab) h arr (w' := W) (by rw [hheap]; simp) hold hnew (by rw [hW]; unfold World.freeze; rw [if_neg (by decide)]; rfl) (by rw [hW]; unfold World.freeze; rw [if_neg (by decide)]; rfl) (by rw [hW]; unfold World.freeze; rw [if_neg (by decide)]; rfl)
  have hlen : b.data.toList.length = b.size := (Array.length_toList (xs := b.data))
  refine Yields.new h hz hd hrun hg ?_ ?_
  · have := bytes_RW (G := G) b.data.toList arr (fun j c hc => by
      have hj : j < b.data.size := by
        have := (List.getElem?_eq_some_iff.1 hc).1
        simpa using this
      have hc' : b.data[j]? = some c := by simpa using hc
      rw [harrd]
      rw [Array.getElem?_append_left (by simpa using hj)]
      simp [hc']) w.heap.size cap (by rw [hlen]; exact hcap)
    rw [hlen] at this
    exact this
  · rintro n ⟨y, hy, rows, nl, rfl⟩; simp [parts] at hy

theorem q_conv (h : Inv E0 w0 Z G F a w) (hz : ∀ n, Z1 lab n → ¬ Z n) (hd : d < F.n) {o : Oper} {s t : TypeId} {x : Operand} (ho : o.op = .convert s t x) {r : AV} (hr : convA P s t (F.ev x) = some r) : Yields E0 w0 Z lab d G F a w P o r := by
  have hpr : ∀ u, (F.ev x).val = some u → ∀ r, (pr P (convert s t u)).map absV = some r → Yields E0 w0 Z lab d G F a w P o r := by
    intro u hu r hr
    simp only [Option.map_eq_some_iff] at hr
    obtain ⟨q, hq, rfl⟩ := hr
    have e1 := val_free hu (opd h x).nb (opd h x).rv
    exact q_pr h hd (s := convert s t u) (by simp only [execOp, ho, e1]) hq
  unfold convA at hr
  split at hr
  · rename_i rows nl own hx
    split at hr
    · rename_i e he hst
      split at hr
      · rename_i hu8
        simp only [Option.map_eq_some_iff] at hr
        obtain ⟨bs, hbs, rfl⟩ := hr
        exact q_bytesStr h hd ho he hst hu8 hx hbs
      · cases hr
    · cases hr
  · rename_i b hx
    split at hr
    · rename_i e he
      split at hr
      · rename_i hc
        simp only [Bool.and_eq_true] at hc
        have := Option.some.inj hr; subst this
        exact q_strBytes h hz hd ho he hc.2 hc.1 hx
      · cases hr
    · exact hpr _ (by rw [hx]; rfl) r hr
  · split at hr
    · rename_i u hu
      exact hpr u hu r hr
    · cases hr

/-- **A quiet operation does what is reckoned.** -/
theorem quiet_sound (h : Inv E0 w0 Z G F a w) (hz : ∀ n, Z1 lab n → ¬ Z n) (hd : d < F.n) {o : Oper} {ds : List Nat} {x : AV} (hq : quiet P F ds lab o.op = some x) : Yields E0 w0 Z lab d G F a w P o x := by
  generalize ho : o.op = op at hq
  cases op <;> simp only [quiet] at hq <;> first | (cases hq; done) | skip
  case move y => have := Option.some.inj hq; subst this; exact q_move h hd (.inl ho)
  case assign y => have := Option.some.inj hq; subst this; exact q_move h hd (.inr ho)
  case pick c y z =>
    split at hq
    · rename_i t ht
      have := Option.some.inj hq; subst this
      exact q_pick h hd ho ht
    · cases hq
  case alloc e =>
    simp only [Option.map_eq_some_iff] at hq
    obtain ⟨cs, hc, rfl⟩ := hq
    exact q_alloc h hz hd ho hc
  case box e y =>
    split at hq
    · rename_i hs
      have := Option.some.inj hq; subst this
      exact q_box h hz hd ho hs
    · cases hq
  case build t ps =>
    split at hq
    · rename_i cs place h1 h2
      simp only [Option.map_eq_some_iff] at hq
      obtain ⟨r, hr, rfl⟩ := hq
      exact q_build h hd ho h1 h2 hr
    · cases hq
  case buildSlice t len ps =>
    split at hq
    · rename_i e he
      split at hq
      · rename_i z sz h1 h2
        split at hq
        · rename_i hc
          simp only [Option.map_eq_some_iff] at hq
          obtain ⟨rows, hr, rfl⟩ := hq
          exact q_buildSlice h hz hd ho he h1 h2 hc hr
        · cases hq
      · cases hq
    · cases hq
  case makeSlice t y z =>
    split at hq
    · rename_i e n k he hn hk
      split at hq
      · rename_i zc sz by_ h1 h2 h3
        split at hq
        · rename_i hc
          obtain ⟨rfl, c1, c2, c3, c4, c5⟩ := hc
          have := Option.some.inj hq; subst this
          exact q_makeSlice h hz hd ho he hn hk h1 h2 h3 c1 c2 c3 c4 c5
        · cases hq
      · cases hq
    · cases hq
  case load t p =>
    split at hq
    · rename_i row off n g h1 h2 h3
      simp only [Option.map_eq_some_iff] at hq
      obtain ⟨r, hr, rfl⟩ := hq
      exact q_load h hd ho h1 h2 h3 hr
    · cases hq
  case nilCheck y =>
    split at hq
    · rename_i row off hy
      have := Option.some.inj hq; subst this
      rw [← hy]
      exact q_nil h hd ho ⟨0, _, by rw [hy]; rfl⟩
    · rename_i g t off hy
      have := Option.some.inj hq; subst this
      rw [← hy]
      exact q_nil h hd ho ⟨0, _, by rw [hy]; rfl⟩
    · rename_i l off hy
      have := Option.some.inj hq; subst this
      rw [← hy]
      exact q_nil h hd ho ⟨0, _, by rw [hy]; rfl⟩
    · cases hq
  case binOp op xt y z yt =>
    split at hq
    · rename_i v hv
      have := Option.some.inj hq; subst this
      exact q_nilEq h hd ho hv
    · exact q_bin h hd ho hq
  case unOp op xt y =>
    split at hq
    · rename_i u hu
      simp only [Option.map_eq_some_iff] at hq
      obtain ⟨r, hr, rfl⟩ := hq
      exact q_un h hd ho hu hr
    · cases hq
  case convert s t y => exact q_conv h hz hd ho hq
  case slice t y lo hi mx => exact q_slice h hd ho hq
  case fieldAddr t y i => exact q_fieldAddr h hd ho hq
  case field t y i => exact q_field h hd ho hq
  case indexAddr t y i => exact q_indexAddr h hd ho hq
  case index t y i => exact q_index h hd ho hq
  case extract y i =>
    split at hq
    · rename_i vs hy
      simp only [Option.map_eq_some_iff] at hq
      obtain ⟨z, hz', rfl⟩ := hq
      exact q_extract h hd ho hy hz'
    · cases hq
end
end Go.Proofs.V
namespace Go.Proofs.V
open Go Go.RowKit
set_option linter.unusedVariables false
set_option linter.unusedSimpArgs false

/-- One block has turned. -/
structure Chg (w w' : World) (b : Nat) (vs : Array Value) (ty : TypeId) : Prop where
  at_ : w'.heap[b]? = some (.cells vs ty (0, 0))
  other : ∀ k, k ≠ b → w'.heap[k]? = w.heap[k]?
  size : w'.heap.size = w.heap.size
  os : w'.os = w.os
  tape : w'.tape = w.tape
  output : w'.output = w.output

theorem one_one' {v : Value} : Value.one v = v.oneCell' := by cases v <;> rfl

theorem storeCells_run {P : Program} {b off : Nat} {ty : TypeId} : ∀ (us : List Value) (i : Nat) (vs : Array Value) (w : World), w.heap[b]? = some (.cells vs ty (0, 0)) → off + i + us.length ≤ vs.size → (∀ v ∈ us, Value.one v = true) →
    ∃ w' vs', (storeCells ⟨b, off, none⟩ us i).run P w = .ok () w' ∧ Chg w w' b vs' ty ∧ vs'.size = vs.size ∧ ∀ j : Nat, vs'[j]? = if off + i ≤ j ∧ j < off + i + us.length then us[j - (off + i)]? else vs[j]?
  | [], i, vs, w, hb, _, _ => ⟨w, vs, rfl, ⟨hb, fun _ _ => rfl, rfl, rfl, rfl, rfl⟩, rfl, fun j => by rw [if_neg (by simp only [List.length_nil]; omega)]⟩
  | u :: us, i, vs, w, hb, hl, h1 => by
    simp only [List.length_cons] at hl
    have hlt : off + i < vs.size := by omega
    have hcell : w.cell? ⟨b, off + i, none⟩ = some vs[off + i] := by simp [World.cell?, hb, hlt]
    have hfr : w.frozen? ⟨b, off + i, none⟩ = false := by simp [World.frozen?, hb]
    have hset : (w.setCell ⟨b, off + i, none⟩ u).heap[b]? = some (.cells (vs.setIfInBounds (off + i) u) ty (0, 0)) := by
      simp [World.setCell, Array.getElem?_modify, hb]
    have hl' : off + (i + 1) + us.length ≤ (vs.setIfInBounds (off + i) u).size := by simp; omega
    obtain ⟨w', vs', e1, e2, e3, e4⟩ := storeCells_run us (i + 1) (vs.setIfInBounds (off + i) u) (w.setCell ⟨b, off + i, none⟩ u) hset hl' (fun v hv => h1 v (List.mem_cons_of_mem _ hv))
    refine ⟨w', vs', ?_, ⟨e2.at_, fun k hk => (e2.other k hk).trans (Below.heap_setCell _ _ _ _ hk), by rw [e2.size]; simp [World.setCell], e2.os, e2.tape, e2.output⟩, by rw [e3]; simp, fun j => ?_⟩
    · have hone : u.oneCell' = true := by rw [← one_one']; exact h1 u (List.mem_cons_self ..)
      simp only [storeCells, Sem.run_bind, add_none]
      rw [run_store P w ⟨b, off + i, none⟩ u .plain hone, hcell]
      simp only [hfr, Bool.false_eq_true, if_false, Result.andThen_ok]
      exact e1
    · rw [e4]
      simp only [List.length_cons]
      by_cases h0 : j = off + i
      · subst h0
        rw [if_neg (by omega), if_pos (by omega)]
        simp [hlt]
      · by_cases h2 : off + (i + 1) ≤ j ∧ j < off + (i + 1) + us.length
        · rw [if_pos h2, if_pos (by omega), show j - (off + i) = (j - (off + (i + 1))) + 1 by omega]
          simp
        · rw [if_neg h2, if_neg (by omega), Array.getElem?_setIfInBounds_ne (Ne.symm h0)]

section
variable {E0 : Nat → Prop} {w0 : Ent} {Z : Nat → Prop} {G : Gh} {F : St} {a : Act} {w : World} {P : Program} {lab : Nat}

theorem Chg.mem {w' : World} {b : Nat} {vs : Array Value} {ty : TypeId} (c : Chg w w' b vs ty) (hm : Mem G.S w) (hS : ∀ ad : Addr, ad.block = b → G.S ad = none) : Mem G.S w' := by
  intro ad v hv
  have hne : ad.block ≠ b := fun h => by rw [hS ad h] at hv; cases hv
  rw [World.cell?_of_block (w := w) (c.other _ hne)]
  exact hm ad v hv
theorem Chg.bel {w' : World} {b : Nat} {vs : Array Value} {ty : TypeId} (c : Chg w w' b vs ty) (hb : w0.heap.size ≤ b ∨ E0 b) (h : Bel E0 w0 w) : Bel E0 w0 w' where
  os := c.os.trans h.os
  tape := c.tape.trans h.tape
  output := c.output.trans h.output
  size := by rw [c.size]; exact h.size
  block k hk he := by
    have hne : k ≠ b := by
      rintro rfl
      rcases hb with h1 | h1
      · omega
      · exact he h1
    rw [c.other k hne]; exact h.block k hk he

theorem Holds1.other {w' : World} {b b' : Nat} {vs vs' : Array Value} {ty : TypeId} {cs : List AV} (c : Chg w w' b vs ty) (hne : b' ≠ b) (h : Holds1 G w b' cs vs') : Holds1 G w' b' cs vs' := by
  obtain ⟨⟨ty', h1⟩, h2, h3, h4, h5⟩ := h
  exact ⟨⟨ty', (c.other _ hne).trans h1⟩, h2, h3, h4, h5⟩

theorem PW_storable {x : AV} {v : Value} (h : R1 G.S G.E x v) (hs : x.storable = true) : ∀ u ∈ v.cells.toList, Value.one u = true := by
  have hp := cells_R1 h hs
  intro u hu
  obtain ⟨j, hj⟩ := List.getElem?_of_mem hu
  have hj' : v.cells[j]? = some u := by simpa using hj
  have hlt : j < x.cells.length := by rw [← hp.1]; exact (Array.getElem?_eq_some_iff.1 hj').1
  exact R1.one (hp.2.2 j _ u (List.getElem?_eq_getElem hlt) hj') (hp.2.1 _ (List.getElem_mem hlt))

/-- What a write over a part of the cells leaves. -/
theorem splice_PW {row cs : List AV} {vs vs' us : Array Value} {off : Nat} (hl : vs.size = row.length) (hp : ∀ x ∈ row, AV.plain x = true) (hR : ∀ (j : Nat) (x : AV) (v : Value), row[j]? = some x → vs[j]? = some v → R1 G.S G.E x v)
    (hc : PW G cs us) (hfit : off + cs.length ≤ row.length) (hs : vs'.size = vs.size) (hv : ∀ j : Nat, vs'[j]? = if off ≤ j ∧ j < off + us.size then us[j - off]? else vs[j]?) : PW G (splice row off cs) vs' := by
  refine ⟨by rw [hs, hl, splice_len _ _ _ hfit], ?_, ?_⟩
  · intro x hm
    obtain ⟨j, hj⟩ := List.getElem?_of_mem hm
    rw [splice_get _ _ _ hfit] at hj
    split at hj
    · exact hc.2.1 x (List.mem_of_getElem? hj)
    · exact hp x (List.mem_of_getElem? hj)
  · intro j x v hj hjv
    rw [splice_get _ _ _ hfit] at hj
    rw [hv, hc.1] at hjv
    split at hj
    · rename_i h1; rw [if_pos h1] at hjv; exact hc.2.2 _ _ _ hj hjv
    · rename_i h1; rw [if_neg h1] at hjv; exact hR _ _ _ hj hjv

/-- The run of a store. -/
theorem store_run {o : Oper} {t : TypeId} {p x : Operand} (ho : o.op = .store t p x) {n b off : Nat} {vs : Array Value} {ty : TypeId} (hn : tsz P t = some n) (hpv : a.eval p = .pointer (some ⟨b, off, none⟩)) (hxl : (a.eval x).cells.size = n) (hone : ∀ u ∈ (a.eval x).cells.toList, Value.one u = true)
    (hb : w.heap[b]? = some (.cells vs ty (0, 0))) (hfit : off + n ≤ vs.size) :
    ∃ w' vs', (execOp a.eval o).run P w = .ok .skip w' ∧ Chg w w' b vs' ty ∧ vs'.size = vs.size ∧ ∀ j : Nat, vs'[j]? = if off ≤ j ∧ j < off + (a.eval x).cells.size then (a.eval x).cells[j - off]? else vs[j]? := by
  obtain ⟨w', vs', e1, e2, e3, e4⟩ := storeCells_run (P := P) (b := b) (off := off) (ty := ty) (a.eval x).cells.toList 0 vs w hb (by simp [hxl]; omega) hone
  refine ⟨w', vs', ?_, e2, e3, fun j => ?_⟩
  · simp only [execOp, ho, Instr.storeAt, hpv, Instr.sureAddr, Sem.run_bind, Sem.run_pure, Result.andThen_ok, storeVar, run_tsz hn]
    rw [if_neg (by rw [hxl]; simp)]
    rw [e1]
    rfl
  · have := e4 j
    simpa using this

theorem inv_store (h : Inv E0 w0 Z G F a w) {o : Oper} {t : TypeId} {p x : Operand} (ho : o.op = .store t p x) {n : Nat} (hn : tsz P t = some n) (hs : (F.ev x).storable = true) (hl : (F.ev x).cells.length = n) {F' : St} (hw : F.write (F.ev p) (F.ev x).cells = some F') :
    ∃ w', (execOp a.eval o).run P w = .ok .skip w' ∧ Inv E0 w0 Z G F' a w' := by
  have hxo := opd h x
  have hxr := opd_R1 hxo (storable_free hs)
  have hPW := cells_R1 hxr hs
  have hxl : (a.eval x).cells.size = n := by rw [hPW.1, hl]
  have hone := PW_storable hxr hs
  have hp := opd h p
  generalize hpv : F.ev p = pv at *
  cases pv <;> simp only [St.write] at hw <;> first | (cases hw; done) | skip
  · -- a box
    rename_i g tt off
    split at hw
    · rename_i g' row hrow
      split at hw
      · rename_i hc
        obtain ⟨rfl, hfit⟩ := hc
        have := Option.some.inj hw; subst this
        obtain ⟨b, vs, hB, hb0, hu, ⟨⟨ty, hheap⟩, hsz, hpl, hR, hS⟩, hcl⟩ := h.box tt g row hrow
        obtain ⟨b', hb', hpa⟩ := hp.rv
        rw [hB] at hb'
        have := Option.some.inj hb'; subst this
        obtain ⟨w', vs', e1, e2, e3, e4⟩ := store_run (P := P) ho hn hpa hxl hone hheap (by rw [hsz]; omega)
        refine ⟨w', e1, ?_⟩
        have hnew := splice_PW (G := G) hsz hpl hR hPW hfit e3 e4
        have hdis : ∀ i gg cs, F.t i = .box gg cs → i ≠ tt → ∀ (b' : Nat) (vs' : Array Value), G.B gg = some b' → G.u b' = some (.slot i) → b' ≠ b := by
          rintro i gg cs hi hne b' vs' h1 h2 rfl
          rw [hu] at h2
          injection h2 with h2
          injection h2 with h2
          exact hne h2.symm
        exact {
          nsz := h.nsz
          df := h.df
          slot := fun i => by
            simp only [upd_apply]
            split
            · rename_i hi
              subst hi
              have := h.slot i
              rw [hrow] at this
              exact this
            · exact h.slot i
          cl := fun i hb' => by
            simp only [upd_apply] at hb' ⊢
            split
            · rename_i hi; exact absurd (by rw [if_pos hi]) (hb' g (splice row off (F.ev x).cells))
            · rename_i hi; exact h.cl i (by simpa only [hi, if_false] using hb')
          ids := fun i m => by
            simp only [upd_apply]
            split
            · rename_i hi
              rintro ⟨y, hy, rows, nl, rfl⟩
              simp only [parts, splice, List.mem_append] at hy
              rcases hy with (hy | hy) | hy
              · exact h.ids tt m ⟨_, by rw [hrow]; exact List.mem_of_mem_take hy, rows, nl, rfl⟩
              · refine hxo.ids m ⟨.slice rows nl (.id m), ?_, rows, nl, rfl⟩
                unfold AV.cells at hy
                split at hy
                · rename_i cs he; rw [he]; exact hy
                · rename_i he
                  simp only [List.mem_singleton] at hy
                  rw [← hy]
                  simp [parts]
              · exact h.ids tt m ⟨_, by rw [hrow]; exact List.mem_of_mem_drop hy, rows, nl, rfl⟩
            · exact h.ids i m
          mem := e2.mem h.mem hS
          bel := e2.bel (hb0.imp id (·.2)) h.bel
          rel := h.rel
          box := fun i gg cs hi => by
            simp only [upd_apply] at hi
            split at hi
            · rename_i hit
              subst hit
              cases hi
              refine ⟨b, vs', hB, hb0, hu, ⟨⟨ty, e2.at_⟩, hnew.1, hnew.2.1, hnew.2.2, hS⟩, ?_⟩
              intro j y u hy hyu
              rw [splice_get _ _ _ hfit] at hy
              rw [e4, hPW.1] at hyu
              split at hy
              · rename_i h1
                rw [if_pos h1] at hyu
                have hcx := hxo.cl (j - off) y u
                unfold AV.cells at hy
                split at hy
                · rename_i cs he
                  rw [he] at hcx
                  generalize a.eval x = v at *
                  rw [he] at hxr
                  cases hxr
                  exact hcx hy (by simpa [vparts, Value.cells] using hyu)
                · rename_i hna
                  have hpy : (F.ev x).plain = true := by
                    have := hPW.2.1 (F.ev x) (by unfold AV.cells; split <;> first | (rename_i he; exact absurd he (hna _)) | simp)
                    exact this
                  have hv1 := R1.one hxr hpy
                  have hvp : vparts (a.eval x) = [a.eval x] ∧ (a.eval x).cells = #[a.eval x] := by
                    generalize a.eval x = v at *
                    cases v <;> first | exact ⟨rfl, rfl⟩ | cases hv1
                  rw [hvp.2] at hyu
                  rw [plain_parts hpy, hvp.1] at hcx
                  exact hcx hy (by simpa using hyu)
              · rename_i h1
                rw [if_neg h1] at hyu
                exact hcl j y u hy hyu
            · rename_i hit
              obtain ⟨b', vs2, q1, q2, q3, q4, q5⟩ := h.box i gg cs hi
              have hne := hdis i gg cs hi hit b' vs2 q1 q3
              exact ⟨b', vs2, q1, q2, q3, q4.other e2 hne, q5⟩
          row := fun m ha => by
            obtain ⟨q1, q2, ⟨vs2, ty2, q3, q3'⟩, q4, q5⟩ := h.row m ha
            have hne : (G.ρ m).b ≠ b := by
              intro hh
              rw [hh, hu] at q2
              injection q2 with q2
              cases q2
            exact ⟨q1, q2, ⟨vs2, ty2, (e2.other _ hne).trans q3, q3'⟩, q4, q5⟩
          obj := fun l cs hlc => by
            obtain ⟨b', vs2, q1, q2, q3, q4⟩ := h.obj l cs hlc
            have hne : b' ≠ b := by
              rintro rfl
              rw [hu] at q3
              injection q3 with q3
              cases q3
            exact ⟨b', vs2, q1, q2, q3, q4.other e2 hne⟩
          zB := h.zB
          zal := h.zal
          live := fun b' hb' => by rw [e2.size]; exact h.live b' hb'
          pro := fun b' o hb' => by
            obtain ⟨p1, p2, p3⟩ := h.pro b' o hb'
            have hne : b' ≠ b := by
              rintro rfl
              rw [hu] at p2
              cases p2
            exact ⟨(e2.other b' hne).trans p1, p2, p3⟩
          bm := h.bm }
      · cases hw
    · cases hw
  · -- the heap
    rename_i l off
    split at hw
    · rename_i row hrow
      split at hw
      · rename_i hfit
        have := Option.some.inj hw; subst this
        obtain ⟨b, vs, hE, hb0, hu, ⟨⟨ty, hheap⟩, hsz, hpl, hR, hS⟩⟩ := h.obj l row hrow
        have hpr : R1 G.S G.E (.hp l off) (a.eval p) := hp.rv
        have hpa : a.eval p = .pointer (some ⟨b, off, none⟩) := by
          generalize a.eval p = v at *
          cases hpr with
          | hp _ _ b' hb' => rw [hE] at hb'; rw [Option.some.inj hb']
        obtain ⟨w', vs', e1, e2, e3, e4⟩ := store_run (P := P) ho hn hpa hxl hone hheap (by rw [hsz]; omega)
        refine ⟨w', e1, ?_⟩
        have hnew := splice_PW (G := G) hsz hpl hR hPW.strip (by simpa using hfit) e3 e4
        have hll : l < F.H.length := (List.getElem?_eq_some_iff.1 hrow).1
        exact {
          nsz := h.nsz
          df := h.df
          slot := h.slot
          cl := h.cl
          ids := h.ids
          mem := e2.mem h.mem hS
          bel := e2.bel hb0 h.bel
          rel := ⟨h.rel.1, h.rel.2.1, h.rel.2.2.1, h.rel.2.2.2.1, fun l b hb => by simpa using h.rel.2.2.2.2 l b hb⟩
          box := fun i gg cs hi => by
            obtain ⟨b', vs2, q1, q2, q3, q4, q5⟩ := h.box i gg cs hi
            have hne : b' ≠ b := by
              rintro rfl
              rw [hu] at q3
              injection q3 with q3
              cases q3
            exact ⟨b', vs2, q1, q2, q3, q4.other e2 hne, q5⟩
          row := fun m ha => by
            obtain ⟨q1, q2, ⟨vs2, ty2, q3, q3'⟩, q4, q5⟩ := h.row m ha
            have hne : (G.ρ m).b ≠ b := by
              intro hh
              rw [hh, hu] at q2
              injection q2 with q2
              cases q2
            exact ⟨q1, q2, ⟨vs2, ty2, (e2.other _ hne).trans q3, q3'⟩, q4, q5⟩
          obj := fun l' cs hlc => by
            by_cases hl' : l' = l
            · subst hl'
              rw [List.getElem?_set_self hll] at hlc
              have := Option.some.inj hlc; subst this
              exact ⟨b, vs', hE, hb0, hu, ⟨⟨ty, e2.at_⟩, hnew.1, hnew.2.1, hnew.2.2, hS⟩⟩
            · rw [List.getElem?_set_ne (Ne.symm hl')] at hlc
              obtain ⟨b', vs2, q1, q2, q3, q4⟩ := h.obj l' cs hlc
              have hne : b' ≠ b := by
                rintro rfl
                rw [hu] at q3
                injection q3 with q3
                injection q3 with q3
                exact hl' q3.symm
              exact ⟨b', vs2, q1, q2, q3, q4.other e2 hne⟩
          zB := h.zB
          zal := h.zal
          live := fun b' hb' => by rw [e2.size]; exact h.live b' hb'
          pro := fun b' o hb' => by
            obtain ⟨p1, p2, p3⟩ := h.pro b' o hb'
            have hne : b' ≠ b := by
              rintro rfl
              rw [hu] at p2
              cases p2
            exact ⟨(e2.other b' hne).trans p1, p2, p3⟩
          bm := h.bm }
      · cases hw
    · cases hw
end
end Go.Proofs.V
namespace Go.Proofs.V
open Go Go.RowKit
set_option linter.unusedVariables false
set_option linter.unusedSimpArgs false

theorem growBy_le (n : Nat) : ∀ (r c : Nat), 256 ≤ c → c ≤ 2 * n → 256 ≤ n → Builtin.growBy n r c ≤ 2 * n
  | 0, c, _, h, _ => h
  | r + 1, c, h1, h2, h3 => by
    unfold Builtin.growBy
    split
    · exact h2
    · exact growBy_le n r _ (by omega) (by omega) h3
theorem next_le (n old : Nat) (h : old < n) : Builtin.nextslicecap n old ≤ 2 * n := by
  unfold Builtin.nextslicecap
  split
  · omega
  · split
    · omega
    · exact growBy_le n 4 old (by omega) (by omega) (by omega)

section
variable {E0 : Nat → Prop} {w0 : Ent} {Z : Nat → Prop} {G : Gh} {F : St} {a : Act} {w : World} {P : Program} {lab d : Nat}

/-- Cells of a slice, as they are loaded. -/
theorem load_rows {rows : List (List AV)} {sz b off : Nat} {val : Nat → Nat → Value} (hm : Mem G.S w) (hsz : ∀ r ∈ rows, r.length = sz) (hpos : 0 < sz) (hpl : ∀ i j x, cellAt rows i j = some x → x.plain = true)
    (hS : ∀ i j x, cellAt rows i j = some x → G.S ⟨b, off + (i * sz + j), none⟩ = some (val i j)) (hR : ∀ i j x, cellAt rows i j = some x → R1 G.S G.E x (val i j)) :
    ∃ us : Array Value, (loadCells ⟨b, off, none⟩ (rows.length * sz)).run P w = .ok us w ∧ RW G sz rows us := by
  have hcell : ∀ k, k < rows.length * sz → ∃ x, cellAt rows (k / sz) (k % sz) = some x := by
    intro k hk
    have h1 : k / sz < rows.length := Nat.div_lt_of_lt_mul (by rw [Nat.mul_comm]; exact hk)
    have h2 : k % sz < sz := Nat.mod_lt _ hpos
    refine ⟨(rows[k / sz])[k % sz]'(by rw [hsz _ (List.getElem_mem h1)]; exact h2), ?_⟩
    simp [cellAt, h1]
  refine ⟨((List.range (rows.length * sz)).map fun k => val (k / sz) (k % sz)).toArray, ?_, ?_⟩
  · refine run_loadCells w ⟨b, off, none⟩ (rows.length * sz) (fun k => val (k / sz) (k % sz)) (fun k hk => ?_)
    obtain ⟨x, hx⟩ := hcell k hk
    rw [add_none]
    have := hm _ _ (hS _ _ x hx)
    have e : k / sz * sz + k % sz = k := by rw [Nat.mul_comm]; exact Nat.div_add_mod k sz
    rw [e] at this
    exact this
  · refine ⟨by simp, hsz, hpl, fun i j x hx => ?_⟩
    have hlt := cellAt_lt hx hsz
    have hidx : i * sz + j < rows.length * sz := by
      have : (i + 1) * sz ≤ rows.length * sz := Nat.mul_le_mul_right _ hlt.1
      rw [Nat.add_mul] at this; omega
    refine ⟨val i j, ?_, hR i j x hx⟩
    have e1 : (i * sz + j) / sz = i := by
      rw [Nat.mul_comm, Nat.mul_add_div hpos, Nat.div_eq_of_lt hlt.2]; rfl
    have e2 : (i * sz + j) % sz = j := by rw [Nat.mul_comm, Nat.mul_add_mod, Nat.mod_eq_of_lt hlt.2]
    simp [hidx, e1, e2]

theorem rowsOf_cell {cells : List AV} {off len sz : Nat} {ys : List (List AV)} (h : rowsOf cells off len sz = some ys) : off + len * sz ≤ cells.length ∧ ys.length = len ∧ (∀ r ∈ ys, r.length = sz) ∧ ∀ i j x, cellAt ys i j = some x → i < len ∧ j < sz ∧ cells[off + (i * sz + j)]? = some x := by
  unfold rowsOf at h
  split at h
  · rename_i hle
    have := Option.some.inj h; subst this
    have hrow : ∀ i, i < len → ((cells.drop (off + i * sz)).take sz).length = sz := by
      intro i hi
      have : (i + 1) * sz ≤ len * sz := Nat.mul_le_mul_right _ hi
      rw [Nat.add_mul] at this
      simp; omega
    refine ⟨hle, by simp, fun r hr => ?_, fun i j x hx => ?_⟩
    · obtain ⟨i, hi, rfl⟩ := List.mem_map.1 hr
      exact hrow i (List.mem_range.1 hi)
    · unfold cellAt at hx
      obtain ⟨r, e1, e2⟩ := Option.bind_eq_some_iff.1 hx
      rw [List.getElem?_map] at e1
      simp only [Option.map_eq_some_iff] at e1
      obtain ⟨k, hk, rfl⟩ := e1
      have hik : i < len ∧ k = i := by
        have hlt : i < len := by
          have := (List.getElem?_eq_some_iff.1 hk).1
          simpa using this
        rw [List.getElem?_range hlt] at hk
        cases hk
        exact ⟨hlt, rfl⟩
      obtain ⟨hi, rfl⟩ := hik
      have hj : j < sz := by rw [← hrow k hi]; exact (List.getElem?_eq_some_iff.1 e2).1
      refine ⟨hi, hj, ?_⟩
      rw [List.getElem?_take, if_pos hj, List.getElem?_drop, Nat.add_assoc] at e2
      exact e2
  · cases h

/-- What is appended, as it is loaded. -/
theorem src_rows (h : Inv E0 w0 Z G F a w) {x : Operand} {xt : Option TypeId} {ys : List (List AV)} {sz : Nat} (hsrc : srcRows P F xt (F.ev x) = some ys) (hsz : ∀ r ∈ ys, r.length = sz) (hpos : 0 < sz) :
    (Builtin.lenOf (a.eval x)).run P w = .ok ys.length w ∧ (∃ us, (Builtin.firstCells sz ys.length (a.eval x)).run P w = .ok us w ∧ RW G sz ys us) ∧ ∃ t, xt = some t ∧ (P.underlying t = some .string ∨ ∃ e, P.underlying t = some (.slice e)) := by
  have hxr := (opd h x).rv
  generalize hv : a.eval x = v at *
  unfold srcRows at hsrc
  split at hsrc
  · rename_i loc off len cap sz' hx
    split at hsrc
    · rename_i hxt
      obtain ⟨cells, hcells, hrows⟩ := Option.bind_eq_some_iff.1 hsrc
      rw [hx] at hxr
      have hxr : R1 G.S G.E (.hs loc off len cap sz') v := hxr
      obtain ⟨e, he⟩ := Option.isSome_iff_exists.1 hxt
      obtain ⟨t, ht, he⟩ := Option.bind_eq_some_iff.1 he
      obtain ⟨q1, q2, q3, q4⟩ := rowsOf_cell hrows
      obtain ⟨b', vs, g1, _, _, ⟨⟨ty, hheap⟩, hvs, hpl, hR, _⟩⟩ := h.obj loc cells hcells
      cases hxr with
      | hs _ _ _ _ _ b hb =>
        have hbb : b' = b := by rw [hb] at g1; exact (Option.some.inj g1).symm
        subst hbb
        refine ⟨by simp [Builtin.lenOf, q2], ?_, t, ht, .inr ⟨e, tel_und he⟩⟩
        cases hys : ys with
        | nil => exact ⟨#[], by simp [Builtin.firstCells, loadCells, loadCellsFrom], by simp, by simp, by intro i j x h; simp [cellAt] at h, by intro i j x h; simp [cellAt] at h⟩
        | cons r rs =>
          have hss : sz' = sz := by rw [← q3 r (by rw [hys]; simp), hsz r (by rw [hys]; simp)]
          subst hss
          rw [← hys]
          refine ⟨((List.range (ys.length * sz')).map fun k => vs.getD (off + k) Go.undef).toArray, ?_, by simp, q3, fun i j x hx => ?_, fun i j x hx => ?_⟩
          · refine run_loadCells w ⟨b', off, none⟩ (ys.length * sz') (fun k => vs.getD (off + k) Go.undef) (fun k hk => ?_)
            rw [add_none]
            rw [q2] at hk
            have : off + k < vs.size := by rw [hvs]; omega
            simp [World.cell?, hheap, Array.getD, this]
          · exact hpl x (List.mem_of_getElem? (q4 i j x hx).2.2)
          · obtain ⟨k1, k2, k3⟩ := q4 i j x hx
            have hidx : i * sz' + j < ys.length * sz' := by
              have : (i + 1) * sz' ≤ len * sz' := Nat.mul_le_mul_right _ k1
              rw [Nat.add_mul] at this; rw [q2]; omega
            refine ⟨vs.getD (off + (i * sz' + j)) Go.undef, by simp [hidx], ?_⟩
            have hlt : off + (i * sz' + j) < vs.size := by rw [hvs]; exact (List.getElem?_eq_some_iff.1 k3).1
            exact hR _ _ _ k3 (by simp [Array.getD, hlt])
    · cases hsrc
  · rename_i rows nl own hx
    split at hsrc
    · rename_i hxt
      have := Option.some.inj hsrc; subst this
      rw [hx] at hxr
      have hxr : R1 G.S G.E (.slice rows nl own) v := hxr
      obtain ⟨e, he⟩ := Option.isSome_iff_exists.1 hxt
      obtain ⟨t, ht, he⟩ := Option.bind_eq_some_iff.1 he
      refine ⟨?_, ?_, t, ht, .inr ⟨e, tel_und he⟩⟩
      · cases hxr <;> rfl
      · cases hxr with
        | nil => exact ⟨#[], rfl, by simp, by simp, by intro i j x h; simp [cellAt] at h, by intro i j x h; simp [cellAt] at h⟩
        | slice _ _ b off cap sz' val hlen hall hfull hpl h1 h2 =>
          cases rows with
          | nil => exact ⟨#[], by simp [Builtin.firstCells, loadCells, loadCellsFrom], by simp, by simp, by intro i j x h; simp [cellAt] at h, by intro i j x h; simp [cellAt] at h⟩
          | cons r rs =>
            have hss : sz' = sz := by rw [← hall r (List.mem_cons_self ..), hsz r (List.mem_cons_self ..)]
            subst hss
            exact load_rows h.mem hsz hpos hpl h1 h2
    · cases hsrc
  · rename_i b hx
    split at hsrc
    · rename_i hxt
      have := Option.some.inj hsrc; subst this
      rw [hx] at hxr
      have hxr : R1 G.S G.E (.at (.string b)) v := hxr
      cases hxr
      simp only [Option.map_eq_some_iff] at hxt
      obtain ⟨t, ht, hst⟩ := hxt
      have hbl : b.data.toList.length = b.size := Array.length_toList (xs := b.data)
      refine ⟨?_, ?_, t, ht, .inl (isStr_und hst)⟩
      · simp [Builtin.lenOf]
      · have hex : (b.extract 0 b.size) = b := by
          have : (b.extract 0 b.size).data.toList = b.data.toList := by simp
          cases hq : b.extract 0 b.size with
          | mk dd =>
            rw [hq] at this
            cases b
            congr 1
            exact Array.ext' this
        refine ⟨b.data.map fun c => .int .u8 c.toNat, ?_, ?_⟩
        · simp only [Builtin.firstCells, List.length_map, hbl, hex, Sem.run_pure]
        · have hsz1 : b.data.toList ≠ [] → sz = 1 := by
            intro hne
            obtain ⟨c, hc⟩ := List.exists_mem_of_ne_nil _ hne
            exact (hsz (rowOfByte c) (List.mem_map.2 ⟨c, hc, rfl⟩)).symm
          have hcell : ∀ i j x, cellAt (b.data.toList.map rowOfByte) i j = some x → j = 0 ∧ ∃ c, b.data.toList[i]? = some c ∧ x = .at (.int .u8 c.toNat) := by
            intro i j x hx
            unfold cellAt at hx
            obtain ⟨r, e1, e2⟩ := Option.bind_eq_some_iff.1 hx
            rw [List.getElem?_map] at e1
            simp only [Option.map_eq_some_iff] at e1
            obtain ⟨c, hc, rfl⟩ := e1
            unfold rowOfByte at e2
            cases j with
            | zero => simp at e2; exact ⟨rfl, c, hc, e2.symm⟩
            | succ j => simp at e2
          refine ⟨?_, hsz, fun i j x hx => ?_, fun i j x hx => ?_⟩
          · by_cases hne : b.data.toList = []
            · have : b.data = #[] := by simpa using hne
              simp [this]
            · rw [hsz1 hne]; simp
          · obtain ⟨_, c, _, rfl⟩ := hcell i j x hx; rfl
          · obtain ⟨rfl, c, hc, rfl⟩ := hcell i j x hx
            have hne : b.data.toList ≠ [] := fun h0 => by rw [h0] at hc; simp at hc
            rw [hsz1 hne]
            have hc' : b.data[i]? = some c := by simpa using hc
            exact ⟨.int .u8 c.toNat, by simp [hc'], .at _⟩
    · cases hsrc
  · cases hsrc

theorem RW.append {sz : Nat} {xs ys : List (List AV)} {us vs : Array Value} (h1 : RW G sz xs us) (h2 : RW G sz ys vs) : RW G sz (xs ++ ys) (us ++ vs) := by
  have hcell : ∀ i j x, cellAt (xs ++ ys) i j = some x → (i < xs.length ∧ cellAt xs i j = some x) ∨ (xs.length ≤ i ∧ cellAt ys (i - xs.length) j = some x) := by
    intro i j x hx
    unfold cellAt at *
    by_cases hi : i < xs.length
    · rw [List.getElem?_append_left hi] at hx; exact .inl ⟨hi, hx⟩
    · rw [List.getElem?_append_right (by omega)] at hx; exact .inr ⟨by omega, hx⟩
  refine ⟨by simp [h1.1, h2.1, Nat.add_mul], ?_, ?_, ?_⟩
  · intro r hr
    rcases List.mem_append.1 hr with hr | hr
    · exact h1.2.1 r hr
    · exact h2.2.1 r hr
  · intro i j x hx
    rcases hcell i j x hx with ⟨_, hx⟩ | ⟨_, hx⟩
    · exact h1.2.2.1 _ _ _ hx
    · exact h2.2.2.1 _ _ _ hx
  · intro i j x hx
    rcases hcell i j x hx with ⟨hi, hx⟩ | ⟨hi, hx⟩
    · obtain ⟨v, e1, e2⟩ := h1.2.2.2 _ _ _ hx
      have hlt : i * sz + j < us.size := (Array.getElem?_eq_some_iff.1 e1).1
      exact ⟨v, by rw [Array.getElem?_append_left hlt]; exact e1, e2⟩
    · obtain ⟨v, e1, e2⟩ := h2.2.2.2 _ _ _ hx
      have hge : us.size ≤ i * sz + j := by
        rw [h1.1]
        have : xs.length * sz ≤ i * sz := Nat.mul_le_mul_right _ hi
        omega
      refine ⟨v, ?_, e2⟩
      rw [Array.getElem?_append_right hge, h1.1, show i * sz + j - xs.length * sz = (i - xs.length) * sz + j by
        rw [Nat.sub_mul]
        have : xs.length * sz ≤ i * sz := Nat.mul_le_mul_right _ hi
        omega]
      exact e1

/-- A slice that is grown takes the place of its elder. -/
theorem inv_grown (h : Inv E0 w0 Z G F a w) (hz : ∀ n, Z1 lab n → ¬ Z n) (hd : d < F.n) {G' : Gh} {w' : World} {b : Nat} {al' : Nat → Bool} {rows : List (List AV)} {v : Value}
    (hS : ∀ ad v, G.S ad = some v → G'.S ad = some v) (hm : Mem G'.S w') (hB : G'.B = G.B) (hE : G'.E = G.E) (hbel : Bel E0 w0 w') (hbb : w0.heap.size ≤ b) (hρ : ∀ m, m ≠ lab → G'.ρ m = G.ρ m)
    (hheap : ∀ k, k < w.heap.size → k ≠ b → w'.heap[k]? = w.heap[k]?) (hSn : ∀ ad : Addr, ad.block < w.heap.size → ad.block ≠ b → G.S ad = none → G'.S ad = none) (hu : ∀ k, k ≠ b → G'.u k = G.u k) (hub : G'.u b = some (.row lab))
    (hal : ∀ m, al' m = true → m = lab ∨ (F.al m = true ∧ (G.ρ m).b ≠ b)) (hbo : w.heap.size ≤ b ∨ ∃ n, G.u b = some (.row n))
    (hrow : w0.heap.size ≤ (G'.ρ lab).b ∧ G'.u (G'.ρ lab).b = some (.row lab) ∧ (∃ vs ty, w'.heap[(G'.ρ lab).b]? = some (.cells vs ty (0, 0)) ∧ vs.size = (G'.ρ lab).cap * (G'.ρ lab).sz) ∧ (0 < (G'.ρ lab).len ∧ (G'.ρ lab).len ≤ (G'.ρ lab).cap) ∧ ∀ o, (G'.ρ lab).len * (G'.ρ lab).sz ≤ o → G'.S ⟨(G'.ρ lab).b, o, none⟩ = none)
    (hlive : ∀ k, (G'.u k).isSome = true → k < w'.heap.size) (hx : R1 G'.S G'.E (.slice rows false (.id lab)) v)
    (hv : v = .slice (some ⟨(G'.ρ lab).b, 0, none⟩) rows.length (G'.ρ lab).cap ∧ rows.length = (G'.ρ lab).len ∧ ∀ r ∈ rows, r.length = (G'.ρ lab).sz) :
    Inv E0 w0 (fun n => Z n ∨ Z1 lab n) G' { F with t := upd F.t d (.slice rows false (.id lab)), al := al' } (a.put (some d) v) w' := by
  have hl : Z1 lab lab := ⟨Nat.le_refl _, by omega⟩
  have hR : ∀ {x : AV} {v : Value}, R1 G.S G.E x v → R1 G'.S G'.E x v := fun hr => R1.mono hS (fun l b hb => by rw [hE]; exact hb) hr
  have hRV : ∀ {x : AV} {v : Value}, RV G x v → RV G' x v := by
    intro x v hr
    cases x with
    | fp p q r => obtain ⟨k, h1, h2⟩ := hr; exact ⟨k, by rw [hB]; exact h1, h2⟩
    | box p q => obtain ⟨k, h1, h2⟩ := hr; exact ⟨k, by rw [hB]; exact h1, h2⟩
    | _ => exact hR hr
  have hCl1 : ∀ {y : AV} {u : Value}, (∀ rows nl, y ≠ .slice rows nl (.id lab)) → Cl1 G F.al y u → Cl1 G' al' y u := by
    intro y u hne hc rows nl n he ha
    rcases hal n ha with rfl | ⟨h1, h2⟩
    · exact absurd he (hne rows nl)
    · have hnl : n ≠ lab := fun e => hz lab hl (e ▸ h.zal n h1)
      rw [hρ n hnl]
      exact hc rows nl n he h1
  have hother : ∀ {b' : Nat} {tg : Tg}, G.u b' = some tg → (∀ n, tg ≠ .row n) → b' ≠ b := by
    rintro b' tg h1 h2 rfl
    rcases hbo with h3 | ⟨n, h3⟩
    · have := h.live b' (by rw [h1]; rfl); omega
    · rw [h1] at h3; exact h2 n (Option.some.inj h3)
  have hHolds : ∀ {b' : Nat} {cs : List AV} {vs : Array Value}, b' < w.heap.size → b' ≠ b → Holds1 G w b' cs vs → Holds1 G' w' b' cs vs := by
    rintro b' cs vs hlt hne ⟨⟨ty, q1⟩, q2, q3, q4, q5⟩
    exact ⟨⟨ty, (hheap b' hlt hne).trans q1⟩, q2, q3, fun j x v hx hv => hR (q4 j x v hx hv), fun ad ha => hSn ad (by rw [ha]; exact hlt) (by rw [ha]; exact hne) (q5 ad ha)⟩
  exact {
    nsz := by simp [Act.put]; exact h.nsz
    df := by simp [Act.put]; exact h.df
    slot := fun i => by
      rw [getD_put (by rw [h.nsz]; exact hd)]
      simp only [upd_apply]
      split
      · exact hx
      · exact hRV (h.slot i)
    cl := fun i hb' => by
      rw [getD_put (by rw [h.nsz]; exact hd)]
      simp only [upd_apply] at hb' ⊢
      split
      · intro j y u hy hu'
        have hvp : vparts v = [v] := by rw [hv.1]; rfl
        rw [hvp] at hu'
        cases j with
        | succ j => simp [parts] at hy
        | zero =>
          simp [parts] at hy hu'
          subst hy; subst hu'
          intro rows' nl n he ha
          cases he
          exact ⟨hv.1, rfl, hv.2.1, hv.2.2⟩
      · rename_i hi
        intro j y u hy hu'
        refine hCl1 ?_ (h.cl i (by simpa only [hi, if_false] using hb') j y u hy hu')
        rintro rows nl rfl
        exact hz lab hl (h.ids i lab ⟨_, List.mem_of_getElem? hy, rows, nl, rfl⟩)
    ids := fun i m => by
      simp only [upd_apply]
      split
      · rintro ⟨y, hy, rows', nl, rfl⟩
        simp [parts] at hy
        rw [hy.2.2]
        exact .inr hl
      · exact fun hi => .inl (h.ids i m hi)
    mem := hm
    bel := hbel
    rel := ⟨fun ad v hv => hS _ _ (h.rel.1 ad v hv), fun ad h0 hb he => hSn ad (Nat.lt_of_lt_of_le hb h.bel.size) (by omega) (h.rel.2.1 ad h0 hb he), fun l b hb => by rw [hE]; exact h.rel.2.2.1 l b hb, fun l b h0 hb => h.rel.2.2.2.1 l b h0 (by rw [← hE]; exact hb), fun l b hb => h.rel.2.2.2.2 l b (by rw [← hE]; exact hb)⟩
    box := fun i gg cs hi => by
      simp only [upd_apply] at hi
      split at hi
      · cases hi
      · obtain ⟨b', vs, q1, q2, q3, q4, q5⟩ := h.box i gg cs hi
        have hne := hother q3 (by intro n hn; cases hn)
        have hlt := h.live b' (by rw [q3]; rfl)
        refine ⟨b', vs, by rw [hB]; exact q1, q2, (hu b' hne).trans q3, hHolds hlt hne q4, fun j x v hx hv => hCl1 ?_ (q5 j x v hx hv)⟩
        rintro rows nl rfl
        exact hz lab hl (h.ids i lab ⟨_, by rw [hi]; exact List.mem_of_getElem? hx, rows, nl, rfl⟩)
    row := fun m ha => by
      rcases hal m ha with rfl | ⟨h1, h2⟩
      · exact hrow
      · have hnl : m ≠ lab := fun e => hz lab hl (e ▸ h.zal m h1)
        rw [hρ m hnl]
        obtain ⟨q1, q2, ⟨vs, ty, q3, q3'⟩, q4, q5⟩ := h.row m h1
        have hlt := h.live _ (by rw [q2]; rfl)
        exact ⟨q1, (hu _ h2).trans q2, ⟨vs, ty, (hheap _ hlt h2).trans q3, q3'⟩, q4, fun o ho => hSn _ hlt h2 (q5 o ho)⟩
    obj := fun l cs hlc => by
      obtain ⟨b', vs, q1, q2, q3, q4⟩ := h.obj l cs hlc
      have hne := hother q3 (by intro n hn; cases hn)
      have hlt := h.live b' (by rw [q3]; rfl)
      exact ⟨b', vs, by rw [hE]; exact q1, q2, (hu b' hne).trans q3, hHolds hlt hne q4⟩
    zB := fun g b' hb' => .inl (h.zB g b' (by rw [← hB]; exact hb'))
    zal := fun m ha => by
      rcases hal m ha with rfl | ⟨h1, _⟩
      · exact .inr hl
      · exact .inl (h.zal m h1)
    live := hlive
    pro := fun b' o hb' => by
      obtain ⟨p1, p2, p3⟩ := h.pro b' o hb'
      have hlt := (Array.getElem?_eq_some_iff.1 p1).1
      have hne : b' ≠ b := by
        rintro rfl
        rcases hbo with h3 | ⟨n, h3⟩
        · omega
        · rw [p2] at h3; cases h3
      exact ⟨(hheap b' hlt hne).trans p1, (hu b' hne).trans p2, fun hf ad ha => hSn ad (by rw [ha]; exact hlt) (by rw [ha]; exact hne) (p3 hf ad ha)⟩
    bm := fun gg b' hb' => by rw [hB]; exact h.bm gg b' hb' }
end
end Go.Proofs.V
namespace Go.Proofs.V
open Go Go.RowKit
set_option linter.unusedVariables false
set_option linter.unusedSimpArgs false

section
variable {E0 : Nat → Prop} {w0 : Ent} {Z : Nat → Prop} {G : Gh} {F : St} {a : Act} {w : World} {P : Program} {lab d : Nat}

/-- The operation, down to the builtin. -/
theorem append_op {o : Oper} {s x : Operand} {ts : Array TypeId} (ho : o.op = .call { callee := .builtin .append, args := #[s, x], argTypes := ts }) {r : Value} {w' : World}
    (h : (Builtin.append_ ts o.type #[a.eval s, a.eval x]).run P w = .ok r w') : (execOp a.eval o).run P w = .ok (.value r) w' := by
  simp [execOp, ho, resolve, invoke, builtin, Sem.run_bind, h]

/-- The builtin, where the room serves. -/
theorem append_room {ts : Array TypeId} {type t xt e : TypeId} {base : Option Addr} {len cap sz n : Nat} {xv : Value} {us : Array Value} {w' : World} (h0 : ts[0]? = some t) (h1 : ts[1]? = some xt) (he : P.underlying t = some (.slice e)) (hsz : tsz P e = some sz)
    (hxt : P.underlying xt = some .string ∨ ∃ e, P.underlying xt = some (.slice e)) (hlen : (Builtin.lenOf xv).run P w = .ok n w) (hcells : (Builtin.firstCells sz n xv).run P w = .ok us w) (hroom : len + n ≤ cap)
    (hst : ∀ a, base = some a → (storeCells (a.add (len * sz)) us.toList).run P w = .ok () w') (hnone : base = none → w' = w) :
    (Builtin.append_ ts type #[.slice base len cap, xv]).run P w = .ok (.slice base (len + n) cap) w' := by
  rcases hxt with hxt | ⟨e', hxt⟩ <;>
  · unfold Builtin.append_
    simp only [h0, h1, List.getElem?_toArray, List.getElem?_cons_zero, List.getElem?_cons_succ, Sem.run_bind, run_underlying he, Result.andThen_ok, run_tsz hsz]
    simp only [run_underlying hxt, Result.andThen_ok, Sem.run_pure, Sem.run_bind, Bool.false_eq_true, if_false, hlen]
    rw [if_pos hroom]
    simp only [Sem.run_bind, Bool.not_false, if_true, hcells, Result.andThen_ok]
    cases base with
    | none => rw [hnone rfl]; rfl
    | some ad => simp only [hst ad rfl, Result.andThen_ok, Sem.run_pure, Sem.run_bind]

theorem run_cap (need old : Nat) (e : TypeId) (w : World) : ∃ c, need ≤ c ∧ (choose (.appendCap need old e)).run P w = .ok c w.drew :=
  ⟨(Question.appendCap need old e).cut (w.tape w.drawn (.appendCap need old e)), Nat.le_add_right _ _, by rw [run_choose]; exact if_neg (by intro h; cases h)⟩

/-- The builtin, where it grows. -/
theorem append_grow {ts : Array TypeId} {type t xt e : TypeId} {base : Option Addr} {len cap sz by_ n : Nat} {xv : Value} {us0 us : Array Value} (h0 : ts[0]? = some t) (h1 : ts[1]? = some xt) (he : P.underlying t = some (.slice e)) (hsz : tsz P e = some sz) (hby : tby P e = some by_)
    (hxt : P.underlying xt = some .string ∨ ∃ e, P.underlying xt = some (.slice e)) (hlen : (Builtin.lenOf xv).run P w = .ok n w) (hcells : ∀ w' : World, w' = w.drew → (Builtin.firstCells sz n xv).run P w' = .ok us w') (hold : ∀ w' : World, w' = w.drew → (Builtin.firstCells sz len (.slice base len cap)).run P w' = .ok us0 w') (hroom : ¬ len + n ≤ cap)
    (hb : (len + n) * by_ ≤ 35184372088832) (hm : len + n ≤ 4611686018427387904) (hby0 : 0 < by_) {i : TypeInfo} {z : Value} (hi : P.info? e = some i) (hz : i.zero = some z) (hzl : z.cells.size = sz) :
    ∃ c rest, len + n ≤ c ∧ rest.size = (c - (len + n)) * sz ∧ (Builtin.append_ ts type #[.slice base len cap, xv]).run P w = .ok (.slice (some ⟨w.heap.size, 0, none⟩) (len + n) c) (w.drew.alloc (.cells (us0 ++ us ++ rest) e)) := by
  obtain ⟨c, hc, hrc⟩ := run_cap (P := P) (len + n) cap e w
  refine ⟨c, Builtin.zeroCells z.cells (c - (len + n)), hc, by simp [Builtin.zeroCells, hzl], ?_⟩
  obtain ⟨i', hi', hib⟩ : ∃ i', P.info? e = some i' ∧ i'.bytes = by_ := by unfold tby at hby; simpa [Option.map_eq_some_iff] using hby
  rw [hi] at hi'
  have := Option.some.inj hi'; subst this
  have hti : ∀ w : World, (typeInfo e).run P w = .ok i w := fun w => by simp [typeInfo, Sem.run_bind, hi]
  have hmax : IntKind.i64.max = 9223372036854775807 := by decide
  have hno : ¬ (((len + n : Nat) : Int) > IntKind.i64.max ∧ (false = true ∨ i.bytes = 0)) := by rintro ⟨_, h | h⟩ <;> simp_all
  have hcap : ¬ (Builtin.nextslicecap (len + n) cap * i.bytes > 2 ^ 48) := by
    have := next_le (len + n) cap (by omega)
    have h2 : Builtin.nextslicecap (len + n) cap * i.bytes ≤ 2 * (len + n) * by_ := by rw [hib]; exact Nat.mul_le_mul_right _ this
    have h3 : 2 * (len + n) * by_ = 2 * ((len + n) * by_) := by rw [Nat.mul_assoc]
    omega
  rcases hxt with hxt | ⟨e', hxt⟩ <;>
  · unfold Builtin.append_
    simp only [h0, h1, List.getElem?_toArray, List.getElem?_cons_zero, List.getElem?_cons_succ, Sem.run_bind, run_underlying he, Result.andThen_ok, run_tsz hsz]
    simp only [run_underlying hxt, Result.andThen_ok, Sem.run_pure, Sem.run_bind, Bool.false_eq_true, if_false, hlen]
    rw [if_neg hroom]
    simp only [Sem.run_bind, hti, Result.andThen_ok, false_or, Bool.false_eq_true, if_false]
    rw [if_neg (by simpa using hno)]
    simp only [Sem.run_bind, hti, Result.andThen_ok, Sem.run_pure]
    rw [if_neg hcap]
    simp only [Sem.run_bind, Sem.run_pure, hrc, Result.andThen_ok, hti, run_askRoom, hold _ rfl, Bool.not_false, if_true, hcells _ rfl, run_zero hi hz, newRow, run_newObj]
    rfl

theorem mem_drew {S : Addr → Option Value} (h : Mem S w) : Mem S w.drew := h

theorem tmp_slice {s : Operand} {rows : List (List AV)} {nl : Bool} {n : Nat} (hs : F.ev s = .slice rows nl (.id n)) (h : Inv E0 w0 Z G F a w) (ha : F.al n = true) : a.eval s = .slice (some ⟨(G.ρ n).b, 0, none⟩) rows.length (G.ρ n).cap ∧ nl = false ∧ rows.length = (G.ρ n).len ∧ ∀ r ∈ rows, r.length = (G.ρ n).sz := by
  have ho := opd h s
  rw [hs] at ho
  have hr : R1 G.S G.E (.slice rows nl (.id n)) (a.eval s) := ho.rv
  have hvp : vparts (a.eval s) = [a.eval s] := by
    generalize a.eval s = v at *
    cases hr <;> rfl
  exact ho.cl 0 _ _ rfl (by rw [hvp]; rfl) rows nl n rfl ha

/-- The base of an append: what is loaded of it. -/
theorem base_rows (hm : Mem G.S w) {rows : List (List AV)} {nl : Bool} {own : Own} {v : Value} {sz : Nat} (hr : R1 G.S G.E (.slice rows nl own) v) (hsz : ∀ r ∈ rows, r.length = sz) (hpos : 0 < sz) : ∃ base cap, v = .slice base rows.length cap ∧ rows.length ≤ cap ∧ (∃ us, (Builtin.firstCells sz rows.length v).run P w = .ok us w ∧ RW G sz rows us) := by
  cases hr with
  | nil => exact ⟨none, 0, rfl, Nat.le_refl _, #[], rfl, by simp, by simp, by intro i j x h; simp [cellAt] at h, by intro i j x h; simp [cellAt] at h⟩
  | slice _ _ b off cap sz' val hlen hall hfull hpl h1 h2 =>
    refine ⟨_, _, rfl, hlen, ?_⟩
    cases rows with
    | nil => exact ⟨#[], by simp [Builtin.firstCells, loadCells, loadCellsFrom], by simp, by simp, by intro i j x h; simp [cellAt] at h, by intro i j x h; simp [cellAt] at h⟩
    | cons r rs =>
      have hss : sz' = sz := by rw [← hall r (List.mem_cons_self ..), hsz r (List.mem_cons_self ..)]
      subst hss
      exact load_rows hm hsz hpos hpl h1 h2

/-- A new row whose first cells nobody writes any more, and that may be appended to. -/
theorem grown_new (h : Inv E0 w0 Z G F a w) (hz : ∀ n, Z1 lab n → ¬ Z n) (hd : d < F.n) {rows : List (List AV)} {sz c : Nat} {us rest : Array Value} {e : TypeId} {al' : Nat → Bool} (hRW : RW G sz rows us) (hne : 0 < rows.length) (hc : rows.length ≤ c) (hrest : rest.size = (c - rows.length) * sz)
    (hal : ∀ m, al' m = true → m = lab ∨ F.al m = true) : ∃ G', Inv E0 w0 (fun n => Z n ∨ Z1 lab n) G' { F with t := upd F.t d (.slice rows false (.id lab)), al := al' } (a.put (some d) (.slice (some ⟨w.heap.size, 0, none⟩) rows.length c)) (w.drew.alloc (.cells (us ++ rest) e)) := by
  let G' : Gh := { G with S := fun ad => if ad.block = w.heap.size ∧ ad.spot = none then us[ad.off]? else G.S ad, u := fun k => if k = w.heap.size then some (.row lab) else G.u k, ρ := fun m => if m = lab then ⟨w.heap.size, rows.length, c, sz⟩ else G.ρ m }
  have hnew : (w.drew.alloc (.cells (us ++ rest) e)).heap[w.heap.size]? = some (.cells (us ++ rest) e (0, 0)) := by
    show (w.heap.push _)[w.heap.size]? = _
    simp
  have hS : ∀ ad v, G.S ad = some v → G'.S ad = some v := fun ad v hv => by
    have := h.mem.lt hv
    simp only [G']
    rw [if_neg (by rintro ⟨h1, _⟩; omega)]
    exact hv
  have hρl : G'.ρ lab = ⟨w.heap.size, rows.length, c, sz⟩ := by simp [G']
  have hus : us.size = rows.length * sz := hRW.1
  refine ⟨G', inv_grown (G' := G') (b := w.heap.size) h hz hd hS ?_ rfl rfl ?_ h.bel.size (fun m hm => by simp only [G']; rw [if_neg hm]) (fun k hk _ => Below.heap_alloc w.drew _ k hk) (fun ad h1 h2 h3 => by simp only [G']; rw [if_neg (by rintro ⟨q, _⟩; exact h2 q)]; exact h3) (fun k hk => by simp only [G']; rw [if_neg hk]) (by simp [G']) (fun m hm => ?_) (.inl (Nat.le_refl _)) ?_ (fun k hk => ?_) ?_ ?_⟩
  · intro ad v hv
    simp only [G'] at hv
    split at hv
    · rename_i hb
      obtain ⟨b, o, s⟩ := ad
      obtain ⟨rfl, rfl⟩ := hb
      have hlt : o < us.size := (Array.getElem?_eq_some_iff.1 hv).1
      simp only [World.cell?, hnew]
      simp only [Option.isSome_none, Bool.false_eq_true, if_false]
      rw [Array.getElem?_append_left hlt]; exact hv
    · have := h.mem.lt hv
      rw [World.cell?_of_block (w := w) (Below.heap_alloc w.drew _ _ this)]
      exact h.mem ad v hv
  · exact h.bel.trans ⟨rfl, rfl, rfl, by simp, fun k hk _ => Below.heap_alloc w.drew _ k hk⟩
  · rcases hal m hm with h1 | h1
    · exact .inl h1
    · refine .inr ⟨h1, fun hb => ?_⟩
      obtain ⟨_, q2, _⟩ := h.row m h1
      have := h.live _ (by rw [q2]; rfl)
      omega
  · rw [hρl]
    refine ⟨h.bel.size, by simp [G'], ⟨us ++ rest, e, hnew, ?_⟩, ⟨hne, hc⟩, fun o ho => ?_⟩
    · simp only [Array.size_append, hus, hrest]
      rw [← Nat.add_mul]; congr 1; omega
    · simp only [G', and_self, if_true]
      exact Array.getElem?_eq_none (by rw [hus]; exact ho)
  · simp only [G'] at hk
    simp
    split at hk
    · omega
    · have := h.live k hk; omega
  · refine R1.slice rows (.id lab) w.heap.size 0 c sz (fun i j => us.getD (i * sz + j) Go.undef) hc hRW.2.1 (by intro h; cases h) hRW.2.2.1 (fun i j x hx => ?_) (fun i j x hx => ?_)
    · obtain ⟨v, e1, e2⟩ := hRW.2.2.2 i j x hx
      have hlt : i * sz + j < us.size := (Array.getElem?_eq_some_iff.1 e1).1
      simp [G', Array.getD, hlt]
    · obtain ⟨v, e1, e2⟩ := hRW.2.2.2 i j x hx
      have hlt : i * sz + j < us.size := (Array.getElem?_eq_some_iff.1 e1).1
      have : us.getD (i * sz + j) Go.undef = v := by
        rw [Array.getElem?_eq_getElem hlt] at e1
        simp [Array.getD, hlt]; exact Option.some.inj e1
      rw [this]
      exact R1.mono hS (fun l b h => h) e2
  · rw [hρl]
    exact ⟨rfl, rfl, hRW.2.1⟩
end
end Go.Proofs.V
