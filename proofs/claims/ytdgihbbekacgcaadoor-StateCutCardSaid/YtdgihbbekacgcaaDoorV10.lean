/- The quiet operations: slices' literals, conversions; all of them together. -/
import Derived.Test.YtdgihbbekacgcaaDoorV9
namespace Go.Proofs.V
open Go Go.RowKit
set_option linter.unusedVariables false
set_option linter.unusedSimpArgs false

section
variable {E0 : Nat → Prop} {w0 : Ent} {Z : Nat → Prop} {G : Gh} {F : St} {a : Act} {w : World} {P : Program} {lab : Nat} {d : Nat}

/-- Rows against cells that lie one behind the other. -/
def RW (G : Gh) (sz : Nat) (rows : List (List AV)) (vs : Array Value) : Prop :=
  vs.size = rows.length * sz ∧ (∀ r ∈ rows, r.length = sz) ∧ (∀ i j x, cellAt rows i j = some x → x.plain = true) ∧ ∀ i j x, cellAt rows i j = some x → ∃ v, vs[i * sz + j]? = some v ∧ R1 G.S G.E x v

theorem cellAt_lt {rows : List (List AV)} {sz i j : Nat} {x : AV} (h : cellAt rows i j = some x) (hsz : ∀ r ∈ rows, r.length = sz) : i < rows.length ∧ j < sz := by
  unfold cellAt at h
  obtain ⟨r, h1, h2⟩ := Option.bind_eq_some_iff.1 h
  exact ⟨(List.getElem?_eq_some_iff.1 h1).1, by rw [← hsz r (List.mem_of_getElem? h1)]; exact (List.getElem?_eq_some_iff.1 h2).1⟩

theorem idx_apart {sz i i' j : Nat} (hj : j < sz) (h : ¬ i' = i) : ¬ (i * sz ≤ i' * sz + j ∧ i' * sz + j < i * sz + sz) := by
  rintro ⟨h1, h2⟩
  rcases Nat.lt_or_gt_of_ne h with h | h
  · have : (i' + 1) * sz ≤ i * sz := Nat.mul_le_mul_right _ h
    rw [Nat.add_mul] at this; omega
  · have : (i + 1) * sz ≤ i' * sz := Nat.mul_le_mul_right _ h
    rw [Nat.add_mul] at this; omega

theorem RW.set {sz : Nat} {rows : List (List AV)} {vs : Array Value} (h : RW G sz rows vs) {xs : List AV} {us : Array Value} (hx : PW G xs us) (hl : xs.length = sz) {i : Nat} (hi : i < rows.length) :
    RW G sz (rows.set i xs) (us.zipIdx.foldl (fun cs (c, j) => cs.setIfInBounds (i * sz + j) c) vs) := by
  have hfit : i * sz + us.size ≤ vs.size := by
    rw [hx.1, hl, h.1]
    have : (i + 1) * sz ≤ rows.length * sz := Nat.mul_le_mul_right _ hi
    rw [Nat.add_mul] at this; omega
  have hall : ∀ r ∈ rows.set i xs, r.length = sz := by
    intro r hr
    rcases List.mem_or_eq_of_mem_set hr with hr | hr
    · exact h.2.1 r hr
    · rw [hr]; exact hl
  have hcell : ∀ i' j, cellAt (rows.set i xs) i' j = if i' = i then xs[j]? else cellAt rows i' j := by
    intro i' j
    unfold cellAt
    by_cases h1 : i' = i
    · subst h1; simp [hi]
    · rw [if_neg h1, List.getElem?_set_ne (Ne.symm h1)]
  refine ⟨by rw [fill_step_size]; simpa using h.1, hall, ?_, ?_⟩
  · intro i' j x hxx
    rw [hcell] at hxx
    split at hxx
    · exact hx.2.1 x (List.mem_of_getElem? hxx)
    · exact h.2.2.1 _ _ _ hxx
  · intro i' j x hxx
    have hlt := cellAt_lt hxx hall
    rw [hcell] at hxx
    rw [fill_step _ _ _ _ hfit, hx.1, hl]
    split at hxx
    · rename_i h1
      subst h1
      rw [if_pos ⟨by omega, by omega⟩]
      obtain ⟨v, e1, e2⟩ := hx.val hxx
      exact ⟨v, by rw [show i' * sz + j - i' * sz = j by omega]; exact e1, e2⟩
    · rename_i h1
      rw [if_neg (idx_apart hlt.2 h1)]
      exact h.2.2.2 _ _ _ hxx

theorem fillRows_R (h : Inv E0 w0 Z G F a w) {sz : Nat} : ∀ (ps : List (Nat × Operand)) (rows : List (List AV)) (vs : Array Value) (r : List (List AV)), RW G sz rows vs → fillRows sz rows (ps.map fun p => (p.1, F.ev p.2)) = some r →
    ∃ us, Instr.fill (fun i => some (i * sz, sz)) vs (ps.map fun p => (p.1, a.eval p.2)) = some us ∧ RW G sz r us ∧ r.length = rows.length
  | [], rows, vs, r, hp, hr => ⟨vs, rfl, by simp [fillRows] at hr; subst hr; exact ⟨hp, rfl⟩⟩
  | (i, x) :: ps, rows, vs, r, hp, hr => by
    simp only [List.map_cons, fillRows] at hr
    split at hr
    · rename_i hc
      simp only [Bool.and_eq_true, beq_iff_eq, decide_eq_true_eq] at hc
      obtain ⟨⟨hs, hlen⟩, hi⟩ := hc
      have hxr := opd_R1 (opd h x) (storable_free hs)
      have hcells := cells_R1 hxr hs
      have hp' := hp.set hcells.strip (by simpa using hlen) hi
      obtain ⟨us, h1, h2, h3⟩ := fillRows_R h ps _ _ r hp' hr
      refine ⟨us, ?_, h2, by simpa using h3⟩
      have hfit : i * sz + sz ≤ vs.size := by
        rw [hp.1]
        have : (i + 1) * sz ≤ rows.length * sz := Nat.mul_le_mul_right _ hi
        rw [Nat.add_mul] at this; omega
      simp only [List.map_cons, Instr.fill]
      rw [if_neg (by rw [hcells.1, hlen]; simp; omega)]
      exact h1
    · cases hr

/-- A new row that holds rows. -/
theorem RW.slice {sz : Nat} {rows : List (List AV)} {vs : Array Value} (h : RW G sz rows vs) (b : Nat) (hS : ∀ ad v, G.S ad = some v → (G.addRow b vs).S ad = some v) (own : Own) (cap : Nat) (hcap : rows.length ≤ cap) (hfull : own = .full → cap = rows.length) :
    R1 (G.addRow b vs).S G.E (.slice rows false own) (.slice (some ⟨b, 0, none⟩) rows.length cap) :=
  .slice rows own b 0 cap sz (fun i j => vs.getD (i * sz + j) Go.undef) hcap h.2.1 hfull h.2.2.1
    (fun i j x hx => by
      obtain ⟨v, e1, e2⟩ := h.2.2.2 i j x hx
      have hlt : i * sz + j < vs.size := (Array.getElem?_eq_some_iff.1 e1).1
      simp [Gh.addRow, Array.getD, hlt])
    (fun i j x hx => by
      obtain ⟨v, e1, e2⟩ := h.2.2.2 i j x hx
      have hlt : i * sz + j < vs.size := (Array.getElem?_eq_some_iff.1 e1).1
      have : vs.getD (i * sz + j) Go.undef = v := by
        rw [Array.getElem?_eq_getElem hlt] at e1
        simp [Array.getD, hlt]; exact Option.some.inj e1
      rw [this]
      exact R1.mono hS (fun l b h => h) e2)

theorem replicate_RW {zv : Value} {sz : Nat} (hp : ∀ x ∈ (absV zv).cells, AV.plain x = true) (hl : (absV zv).cells.length = zv.cells.size) (hzl : (absV zv).cells.length = sz) (hne : sz ≠ 0) (len : Nat) :
    RW G sz (List.replicate len (absV zv).cells) ((Array.range (len * sz)).map ((if len * sz = 0 then #[] else zv.cells)[· % (if len * sz = 0 then #[] else zv.cells).size]!)) := by
  have hzs : zv.cells.size = sz := by rw [← hl, hzl]
  have hPW : PW G (absV zv).cells zv.cells := ⟨hl.symm, hp, absV_cells G zv hp⟩
  let z0 : Array Value := if len * sz = 0 then #[] else zv.cells
  let flat : Array Value := (Array.range (len * sz)).map (z0[· % z0.size]!)
  have h0 : RW G sz (List.replicate len (absV zv).cells) flat := by
    refine ⟨by simp [flat], ?_, ?_, ?_⟩
    · intro r hr; exact (congrArg List.length (List.eq_of_mem_replicate hr)).trans hzl
    · intro i j x hx
      unfold cellAt at hx
      obtain ⟨r, e1, e2⟩ := Option.bind_eq_some_iff.1 hx
      have := List.eq_of_mem_replicate (List.mem_of_getElem? e1)
      subst this
      exact hp x (List.mem_of_getElem? e2)
    · intro i j x hx
      have hlt := cellAt_lt (sz := sz) hx (fun r hr => (congrArg List.length (List.eq_of_mem_replicate hr)).trans hzl)
      unfold cellAt at hx
      obtain ⟨r, e1, e2⟩ := Option.bind_eq_some_iff.1 hx
      have := List.eq_of_mem_replicate (List.mem_of_getElem? e1)
      subst this
      obtain ⟨v, e3, e4⟩ := hPW.val e2
      have hi : i < len := by simpa using hlt.1
      have hidx : i * sz + j < len * sz := by
        have : (i + 1) * sz ≤ len * sz := Nat.mul_le_mul_right _ hi
        rw [Nat.add_mul] at this; omega
      refine ⟨v, ?_, e4⟩
      have hz0 : z0 = zv.cells := by simp only [z0]; rw [if_neg (by omega)]
      have hmod : (i * sz + j) % sz = j := by rw [Nat.mul_comm, Nat.mul_add_mod, Nat.mod_eq_of_lt hlt.2]
      simp only [flat, Array.getElem?_map, hz0, hzs]
      rw [Array.getElem?_eq_getElem (by simpa using hidx)]
      simp only [Array.getElem_range, Option.map_some, hmod]
      have hj : j < zv.cells.size := by rw [hzs]; exact hlt.2
      rw [getElem!_pos zv.cells j hj]
      rw [Array.getElem?_eq_getElem hj] at e3
      exact e3
  exact h0
theorem buildSlice_run (h : Inv E0 w0 Z G F a w) {o : Oper} {t e : TypeId} {len : Nat} {ps : Array (Nat × Operand)} (ho : o.op = .buildSlice t len ps) (he : tel P t = some e) {z : List AV} {sz : Nat} (hze : tzero P e = some z) (hsz : tsz P e = some sz)
    (hc : z.length = sz ∧ len * sz ≤ 16777216 ∧ sz ≠ 0) {rows : List (List AV)} (hr : fillRows sz (List.replicate len z) (ps.toList.map fun p => (p.1, F.ev p.2)) = some rows) : ∃ us ty, (execOp a.eval o).run P w = .ok (.value (.slice (some ⟨w.heap.size, 0, none⟩) rows.length rows.length)) (w.alloc (.cells us ty)) ∧ RW G sz rows us := by
  obtain ⟨i, zv, h1, h2, rfl, hp, hl⟩ := tzero_info hze
  obtain ⟨hzl, hbig, hne⟩ := hc
  have hzs : zv.cells.size = sz := by rw [← hl, hzl]
  have hPW : PW G (absV zv).cells zv.cells := ⟨hl.symm, hp, absV_cells G zv hp⟩
  let z0 : Array Value := if len * sz = 0 then #[] else zv.cells
  let flat : Array Value := (Array.range (len * sz)).map (z0[· % z0.size]!)
  have h0 : RW G sz (List.replicate len (absV zv).cells) flat := replicate_RW hp hl hzl hne len
  obtain ⟨us, e1, e2, e3⟩ := fillRows_R h ps.toList _ _ rows h0 hr
  have hlen : rows.length = len := by simpa using e3
  have hmap : (ps.map fun x : Nat × Operand => (x.1, a.eval x.2)).toList = ps.toList.map fun p => (p.1, a.eval p.2) := by simp
  have hrun : (execOp a.eval o).run P w = .ok (.value (.slice (some ⟨w.heap.size, 0, none⟩) rows.length rows.length)) (w.alloc (.cells us e)) := by
    have hnb : ¬ (len * sz > 2 ^ 24) := by omega
    have e1' : Instr.fill (fun i => some (i * sz, sz)) flat (ps.map fun x : Nat × Operand => (x.1, a.eval x.2)).toList = some us := by rw [hmap]; exact e1
    simp only [execOp, ho, Instr.buildSlice, Sem.run_bind, run_underlying (tel_und he), Result.andThen_ok, run_tsz hsz]
    rw [if_neg hnb]
    by_cases h00 : len * sz = 0
    · have hz0 : z0 = #[] := by simp only [z0]; rw [if_pos h00]
      simp only [flat, hz0] at e1'
      simp only [h00, if_true, Sem.run_bind, Sem.run_pure, Result.andThen_ok]
      rw [h00] at e1'
      simp only [e1']
      simp [newRow, hlen]
    · have hz0 : z0 = zv.cells := by simp only [z0]; rw [if_neg h00]
      simp only [flat, hz0] at e1'
      simp only [h00, if_false, Sem.run_bind, run_zero h1 h2, Sem.run_pure, Result.andThen_ok]
      simp only [e1']
      simp [newRow, hlen]
  exact ⟨us, e, hrun, e2⟩
theorem q_buildSlice (h : Inv E0 w0 Z G F a w) (hz : ∀ n, Z1 lab n → ¬ Z n) (hd : d < F.n) {o : Oper} {t e : TypeId} {len : Nat} {ps : Array (Nat × Operand)} (ho : o.op = .buildSlice t len ps) (he : tel P t = some e) {z : List AV} {sz : Nat} (hze : tzero P e = some z) (hsz : tsz P e = some sz)
    (hc : z.length = sz ∧ len * sz ≤ 16777216 ∧ sz ≠ 0) {rows : List (List AV)} (hr : fillRows sz (List.replicate len z) (ps.toList.map fun p => (p.1, F.ev p.2)) = some rows) : Yields E0 w0 Z lab d G F a w P o (.slice rows false .full) := by
  obtain ⟨us, e', hrun, e2⟩ := buildSlice_run (P := P) h ho he hze hsz hc hr
  refine Yields.row h hz hd hrun (e2.slice w.heap.size (grow_row (lab := lab) h us e').S .full rows.length (Nat.le_refl _) (fun _ => rfl)) ?_
  rintro n ⟨y, hy, rows, nl, rfl⟩
  simp [parts] at hy

theorem makeSlice_run (h : Inv E0 w0 Z G F a w) {o : Oper} {t e : TypeId} {x y : Operand} (ho : o.op = .makeSlice t x y) (he : tel P t = some e) {n : Int} (hx : intOfA (F.ev x) = some n) (hy : intOfA (F.ev y) = some n) {z : List AV} {sz by_ : Nat} (hze : tzero P e = some z) (hsz : tsz P e = some sz) (hby : tby P e = some by_)
    (h0 : 0 ≤ n) (h1 : n ≤ 35184372088832) (h2 : n.toNat * by_ ≤ 35184372088832) (hzl : z.length = sz) (hne : sz ≠ 0) :
    ∃ us ty, (execOp a.eval o).run P w = .ok (.value (.slice (some ⟨w.heap.size, 0, none⟩) (List.replicate n.toNat z).length (List.replicate n.toNat z).length)) (w.alloc (.cells us ty)) ∧ RW G sz (List.replicate n.toNat z) us := by
  obtain ⟨i, zv, q1, q2, rfl, hp, hl⟩ := tzero_info hze
  obtain ⟨k, hk⟩ := int_opd (opd h x).rv hx
  obtain ⟨k', hk'⟩ := int_opd (opd h y).rv hy
  refine ⟨_, e, ?_, replicate_RW hp hl hzl hne n.toNat⟩
  have hwrap : IntKind.i64.wrap n = n := by
    have hb : (IntKind.i64.bits : Nat) = 64 := rfl
    have hsg : IntKind.i64.signed = true := rfl
    simp only [IntKind.wrap, hb, hsg]
    have e1 : n % (2 ^ 64 : Int) = n := Int.emod_eq_of_lt h0 (by omega)
    rw [e1, if_neg]
    simp only [Bool.true_and, ge_iff_le, decide_eq_true_eq]
    omega
  obtain ⟨i', hi', hib⟩ : ∃ i', P.info? e = some i' ∧ i'.bytes = by_ := by unfold tby at hby; simpa [Option.map_eq_some_iff] using hby
  rw [q1] at hi'
  have := Option.some.inj hi'; subst this
  have hti : ∀ w : World, (typeInfo e).run P w = .ok i w := fun w => by simp [typeInfo, Sem.run_bind, q1]
  have hbig : ((i.bytes : Int) * n > 2 ^ 48) = False := by
    rw [hib]
    have e2 : ((by_ : Int) * n) = ((n.toNat * by_ : Nat) : Int) := by
      rw [Int.natCast_mul, Int.toNat_of_nonneg h0, Int.mul_comm]
    rw [e2]
    simp only [eq_iff_iff, iff_false, gt_iff_lt, Int.not_lt]
    omega
  have hneg : (n < 0) = False := by simp only [eq_iff_iff, iff_false]; omega
  simp only [execOp, ho, Instr.makeSlice, Sem.run_bind, run_underlying (tel_und he), Result.andThen_ok, hk, hk', asInt, asIntOf, Sem.run_pure, hti, hwrap]
  simp only [hbig, hneg, decide_false, Bool.or_false, Int.lt_irrefl, gt_iff_lt, Bool.false_eq_true, if_false, Sem.run_bind, run_askRoom, Result.andThen_ok, run_tsz hsz]
  by_cases h00 : n.toNat * sz = 0
  · simp [h00, Sem.run_bind, newRow, List.length_replicate]
  · simp [h00, Sem.run_bind, run_zero q1 q2, newRow, List.length_replicate]
theorem q_makeSlice (h : Inv E0 w0 Z G F a w) (hz : ∀ n, Z1 lab n → ¬ Z n) (hd : d < F.n) {o : Oper} {t e : TypeId} {x y : Operand} (ho : o.op = .makeSlice t x y) (he : tel P t = some e) {n : Int} (hx : intOfA (F.ev x) = some n) (hy : intOfA (F.ev y) = some n) {z : List AV} {sz by_ : Nat} (hze : tzero P e = some z) (hsz : tsz P e = some sz) (hby : tby P e = some by_)
    (h0 : 0 ≤ n) (h1 : n ≤ 35184372088832) (h2 : n.toNat * by_ ≤ 35184372088832) (hzl : z.length = sz) (hne : sz ≠ 0) : Yields E0 w0 Z lab d G F a w P o (.slice (List.replicate n.toNat z) false .full) := by
  obtain ⟨us, e', hrun, e2⟩ := makeSlice_run (P := P) h ho he hx hy hze hsz hby h0 h1 h2 hzl hne
  refine Yields.row h hz hd hrun (e2.slice w.heap.size (grow_row (lab := lab) h us e').S .full _ (Nat.le_refl _) (fun _ => rfl)) ?_
  rintro n ⟨y, hy, rows, nl, rfl⟩
  simp [parts] at hy

theorem bytesOf_cells {rows : List (List AV)} {bs : List UInt8} (h : bytesOf rows = some bs) : ∃ ns : List Int, rows = ns.map (fun n => [AV.at (.int .u8 n)]) ∧ bs = ns.map fun n => UInt8.ofNat n.toNat := by
  induction rows generalizing bs with
  | nil => simp [bytesOf] at h; subst h; exact ⟨[], rfl, rfl⟩
  | cons r rows ih =>
    unfold bytesOf at h
    split at h
    · rename_i e; cases e
    · rename_i n rest e
      cases e
      simp only [Option.map_eq_some_iff] at h
      obtain ⟨bs', h1, rfl⟩ := h
      obtain ⟨ns, e1, e2⟩ := ih h1
      exact ⟨n :: ns, by simp [e1], by simp [e2]⟩
    · cases h
theorem foldl_push (ns : List Int) : ∀ l : List UInt8, ns.foldl (fun (r : ByteArray) n => r.push (UInt8.ofNat n.toNat)) ⟨⟨l⟩⟩ = ⟨⟨l ++ ns.map fun n => UInt8.ofNat n.toNat⟩⟩ := by
  induction ns with
  | nil => intro l; simp
  | cons n ns ih =>
    intro l
    simp only [List.foldl_cons]
    have : (⟨⟨l⟩⟩ : ByteArray).push (UInt8.ofNat n.toNat) = ⟨⟨l ++ [UInt8.ofNat n.toNat]⟩⟩ := by simp [ByteArray.push]
    rw [this, ih]
    simp
theorem q_bytesStr (h : Inv E0 w0 Z G F a w) (hd : d < F.n) {o : Oper} {s t e : TypeId} {x : Operand} (ho : o.op = .convert s t x) (he : tel P s = some e) (hst : isStr P t = true) (hu8 : isU8 P e = true) {rows : List (List AV)} {nl : Bool} {own : Own} (hx : F.ev x = .slice rows nl own) {bs : List UInt8} (hb : bytesOf rows = some bs) :
    Yields E0 w0 Z lab d G F a w P o (.at (.string ⟨⟨bs⟩⟩)) := by
  have hxr := (opd h x).rv
  rw [hx] at hxr
  have hxr : R1 G.S G.E (.slice rows nl own) (a.eval x) := hxr
  refine Yields.same h hd (v := .string ⟨⟨bs⟩⟩) ?_ (.of_noId (.at _) (nid_at _))
  generalize hv : a.eval x = v at *
  obtain ⟨ns, e1, e2⟩ := bytesOf_cells hb
  cases hxr with
  | nil =>
    have : bs = [] := by simpa [bytesOf] using hb.symm
    subst this
    simp only [execOp, ho, hv, Sem.run_bind, run_convert_bytes_string w s t e none 0 0 (tel_und he) (isU8_und hu8) (isStr_und hst), Conv.bytesToString, Sem.run_pure, Result.andThen_ok]
    rfl
  | slice _ _ b off cap sz val hlen hsz hfull hpl h1 h2 =>
    subst e1
    have hload : (loadCells ⟨b, off, none⟩ (ns.map fun n => [AV.at (.int .u8 n)]).length).run P w = .ok (ns.map (Value.int .u8)).toArray w := by
      have := run_loadCells_list (P := P) w ⟨b, off, none⟩ (ns.map (Value.int .u8)) (fun j v hv => by
        rw [List.getElem?_map] at hv
        simp only [Option.map_eq_some_iff] at hv
        obtain ⟨n, hn, rfl⟩ := hv
        have hc : cellAt (ns.map fun n => [AV.at (.int .u8 n)]) j 0 = some (.at (.int .u8 n)) := by simp [cellAt, hn]
        have hsz1 : sz = 1 := by
          have := hsz [AV.at (.int .u8 n)] (List.mem_map.2 ⟨n, List.mem_of_getElem? hn, rfl⟩)
          simpa using this.symm
        have h3 := h.mem _ _ (h1 j 0 _ hc)
        have h4 := h2 j 0 _ hc
        subst hsz1
        rw [add_none]
        generalize hval : val j 0 = u at *
        cases h4
        simpa using h3)
      simpa using this
    have := run_bytesToString (P := P) w ⟨b, off, none⟩ (ns.map fun n => [AV.at (.int .u8 n)]).length cap ns hload
    simp only [execOp, ho, hv, Sem.run_bind, run_convert_bytes_string w s t e _ _ _ (tel_und he) (isU8_und hu8) (isStr_und hst), this, Result.andThen_ok, Sem.run_pure]
    rw [show ByteArray.empty = ⟨⟨[]⟩⟩ from rfl, foldl_push]
    simp [e2]
end
end Go.Proofs.V
