/- The quiet operations, on: reading memory, parts, slices, literals. -/
import Derived.Test.YtdgihbbekacgcaaDoorV6
namespace Go.Proofs.V
open Go Go.RowKit
set_option linter.unusedVariables false
set_option linter.unusedSimpArgs false

section
variable {E0 : Nat → Prop} {w0 : Ent} {Z : Nat → Prop} {G : Gh} {F : St} {a : Act} {w : World} {P : Program} {lab : Nat} {d : Nat}

theorem plain_parts {x : AV} (h : x.plain = true) : parts x = [x] := by cases x <;> first | rfl | (cases h)
/-- A part of a row against the part of the cells. -/
theorem part_R {cs : List AV} {f : Nat → Value} {g : Bool} {n off : Nat} {r : AV} (hp : partA g n cs off = some r) (hn : g = false → True) (hpl : ∀ x ∈ cs, AV.plain x = true)
    (hR : ∀ (j : Nat) (x : AV), cs[j]? = some x → R1 G.S G.E x (f j)) : (g = true → off + n ≤ cs.length ∧ R1 G.S G.E r (.agg ((List.range n).map fun j => f (off + j)).toArray)) ∧ (g = false → off < cs.length ∧ R1 G.S G.E r (f off)) ∧ (∀ n, HasId n r → ∃ (j : Nat) (x : AV), cs[j]? = some x ∧ HasId n x) ∧ (∀ g cs, r ≠ .box g cs) := by
  unfold partA at hp
  cases g with
  | true =>
    simp only [if_true, Option.map_eq_some_iff, take?] at hp
    obtain ⟨l, hl, rfl⟩ := hp
    split at hl
    · rename_i hle
      have := Option.some.inj hl; subst this
      refine ⟨fun _ => ⟨hle, ?_⟩, (by intro h; cases h), ?_, by intro g cs h; cases h⟩
      · refine R1.agg _ _ (by simp; omega) ?_ ?_
        · intro x hx
          exact hpl x (List.mem_of_mem_drop (List.mem_of_mem_take hx))
        · intro j x v hx hv
          rw [List.getElem?_take] at hx
          split at hx
          · rename_i hjn
            rw [List.getElem?_drop] at hx
            have := hR _ _ hx
            rw [List.getElem?_map, List.getElem?_range hjn] at hv
            simp at hv
            subst hv
            exact this
          · cases hx
      · rintro n ⟨y, hy, rows, nl, rfl⟩
        simp only [parts] at hy
        have hm := List.mem_of_mem_drop (List.mem_of_mem_take hy)
        obtain ⟨j, hj⟩ := List.getElem?_of_mem hm
        exact ⟨j, _, hj, ⟨_, by simp [parts], rows, nl, rfl⟩⟩
    · cases hl
  | false =>
    simp only [Bool.false_eq_true, if_false] at hp
    refine ⟨(by intro h; cases h), fun _ => ⟨(List.getElem?_eq_some_iff.1 hp).1, hR _ _ hp⟩, fun n hi => ⟨off, r, hp, hi⟩, ?_⟩
    rintro g cs rfl
    have := hpl _ (List.mem_of_getElem? hp)
    cases this

theorem run_loadVar {t : TypeId} {g : Bool} {n : Nat} (hg : tagg P t = some g) (hn : tsz P t = some n) (b o : Nat) (f : Nat → Value) (h1 : g = true → ∀ j, j < n → w.cell? ⟨b, o + j, none⟩ = some (f j)) (h2 : g = false → w.cell? ⟨b, o, none⟩ = some (f 0)) :
    (loadVar t ⟨b, o, none⟩).run P w = .ok (if g then .agg ((List.range n).map f).toArray else f 0) w := by
  cases g with
  | true =>
    simp only [loadVar, Sem.run_bind, run_tagg hg, Result.andThen_ok, if_true, run_tsz hn]
    rw [run_loadCells w ⟨b, o, none⟩ n f (fun j hj => by rw [add_none]; exact h1 rfl j hj)]
    rfl
  | false =>
    simp only [loadVar, Sem.run_bind, run_tagg hg, Result.andThen_ok, Bool.false_eq_true, if_false, run_load, h2 rfl]

theorem keep_other {p x : AV} (h : ∀ g t off, p ≠ .fp g t off) : keep p x = strip x := by
  unfold keep
  split
  · rename_i h'; exact absurd rfl (h _ _ _)
  · rfl
theorem nb_strip {x : AV} (h : ∀ g cs, x ≠ .box g cs) : ∀ g cs, strip x ≠ .box g cs := by
  intro g cs he
  unfold strip at he
  split at he
  · cases he
  · cases he
  · unfold strip1 at he
    split at he
    · cases he
    · cases he
    · exact h g cs he

theorem q_loadO (h : Inv E0 w0 Z G F a w) {t : TypeId} {p : Operand} {ds : List Nat} {row : List AV} {off n : Nat} {g : Bool} {r : AV}
    (hl : F.look ds (F.ev p) = some (row, off)) (hn : tsz P t = some n) (hg : tagg P t = some g) (hr : partA g n row off = some r) : ∃ ad v, a.eval p = .pointer (some ad) ∧ (loadVar t ad).run P w = .ok v w ∧ Opd G F Z (keep (F.ev p) r) v := by
  have hp := opd h p
  generalize hpv : F.ev p = pv at *
  generalize hv : a.eval p = v at *
  cases pv <;> simp only [St.look] at hl <;> first | (cases hl; done) | skip
  · -- a row that nobody writes
    rename_i row' off'
    have := Option.some.inj hl
    cases this
    have hrv : R1 G.S G.E (.ref row off) v := hp.rv
    cases hrv with
    | ref _ _ b o' val hpl h1 h2 =>
      obtain ⟨q1, q2, q3, q4⟩ := part_R (G := G) (f := val) hr (fun _ => trivial) hpl h2
      have hrun : (loadVar t ⟨b, o' + off, none⟩).run P w = .ok (if g then .agg ((List.range n).map fun j => val (off + j)).toArray else val off) w := by
        have := run_loadVar (P := P) (w := w) hg hn b (o' + off) (fun j => val (off + j)) (fun hgt j hj => by
          have hjl : off + j < row.length := by have := (q1 hgt).1; omega
          rw [Nat.add_assoc]
          exact h.mem _ _ (h1 _ _ (List.getElem?_eq_getElem hjl))) (fun hgf => h.mem _ _ (h1 off _ (List.getElem?_eq_getElem (q2 hgf).1)))
        simp only [Nat.add_zero] at this
        exact this
      rw [keep_other (by intro g t off h; cases h)]
      refine ⟨_, _, rfl, hrun, (.of_noId (strip_R1 ?_) (noId_strip q4))⟩
      cases g with
      | true => exact (q1 rfl).2
      | false => exact (q2 rfl).2
  · -- a box
    rename_i gg tt off'
    split at hl
    · cases hl
    · split at hl
      · rename_i g' cs hcs
        split at hl
        · rename_i hgg
          have := Option.some.inj hl
          cases this
          subst hgg
          obtain ⟨b, vs, hB, _, _, ⟨⟨ty, hheap⟩, hsz, hpl, hR, _⟩, hcl⟩ := h.box tt gg row hcs
          obtain ⟨b', hb', rfl⟩ := hp.rv
          rw [hB] at hb'
          have := Option.some.inj hb'; subst this
          have hcell : ∀ j, w.cell? ⟨b, j, none⟩ = vs[j]? := fun j => by simp [World.cell?, hheap]
          have hf : ∀ (j : Nat) (x : AV), row[j]? = some x → vs[j]? = some (vs.getD j Go.undef) := fun j x hx => by
            have hj : j < vs.size := by rw [hsz]; exact (List.getElem?_eq_some_iff.1 hx).1
            simp [Array.getD, hj]
          obtain ⟨q1, q2, q3, q4⟩ := part_R (G := G) (f := fun j => vs.getD j Go.undef) hr (fun _ => trivial) hpl (fun j x hx => hR j x _ hx (hf j x hx))
          have hrun : (loadVar t ⟨b, off, none⟩).run P w = .ok (if g then .agg ((List.range n).map fun j => vs.getD (off + j) Go.undef).toArray else vs.getD off Go.undef) w := by
            have := run_loadVar (P := P) (w := w) hg hn b off (fun j => vs.getD (off + j) Go.undef) (fun hgt j hj => by
              have hjl : off + j < row.length := by have := (q1 hgt).1; omega
              rw [hcell]; exact hf _ _ (List.getElem?_eq_getElem hjl)) (fun hgf => by
              have hjl : off < row.length := (q2 hgf).1
              rw [hcell]; exact hf _ _ (List.getElem?_eq_getElem hjl))
            simp only [Nat.add_zero] at this
            exact this
          refine ⟨_, _, rfl, hrun, ?_⟩
          show Opd G F Z r _
          cases g with
          | true =>
            refine ⟨RV_of (q1 rfl).2, q4, ?_, fun n hn => ?_⟩
            · intro j y u hy hu
              simp only [partA, if_true, Option.map_eq_some_iff, take?] at hr
              obtain ⟨l, hl', rfl⟩ := hr
              split at hl'
              · have := Option.some.inj hl'; subst this
                simp only [parts] at hy
                rw [List.getElem?_take] at hy
                split at hy
                · rename_i hjn
                  rw [List.getElem?_drop] at hy
                  simp only [if_true, vparts, List.getElem?_map, List.getElem?_range hjn, Option.map_some, Option.some.injEq] at hu
                  subst hu
                  exact hcl _ _ _ hy (hf _ _ hy)
                · cases hy
              · cases hl'
            · obtain ⟨j, x, hx, hi⟩ := q3 n hn
              have hpx := hpl x (List.mem_of_getElem? hx)
              obtain ⟨y, hy, rows, nl, rfl⟩ := hi
              have hxy : x = .slice rows nl (.id n) := by
                rw [plain_parts hpx] at hy
                exact (List.mem_singleton.1 hy).symm
              exact h.ids tt n ⟨_, by rw [hcs]; simp [parts]; exact List.mem_of_getElem? hx, rows, nl, hxy⟩
          | false =>
            simp only [partA, Bool.false_eq_true, if_false] at hr
            have hpx := hpl r (List.mem_of_getElem? hr)
            refine ⟨RV_of (q2 rfl).2, q4, ?_, fun n hn => ?_⟩
            · intro j y u hy hu
              have hpr : parts r = [r] := by cases r <;> first | rfl | (cases hpx)
              have hone := R1.one (q2 rfl).2 hpx
              have hvp : vparts (vs.getD off Go.undef) = [vs.getD off Go.undef] := by
                generalize vs.getD off Go.undef = z at *
                cases z <;> first | rfl | (cases hone)
              rw [hpr] at hy
              simp only [Bool.false_eq_true, if_false, hvp] at hu
              cases j with
              | succ j => simp at hy
              | zero =>
                have e1 : r = y := Option.some.inj hy
                have e2 : vs.getD off Go.undef = u := Option.some.inj hu
                subst e1; subst e2
                exact hcl off _ _ hr (hf _ _ hr)
            · obtain ⟨y, hy, rows, nl, rfl⟩ := hn
              have hxy : r = .slice rows nl (.id n) := by
                rw [plain_parts hpx] at hy
                exact (List.mem_singleton.1 hy).symm
              exact h.ids tt n ⟨_, by rw [hcs]; simp [parts]; exact List.mem_of_getElem? hr, rows, nl, hxy⟩
        · cases hl
      · cases hl
  · -- the heap
    rename_i l off'
    simp only [Option.map_eq_some_iff] at hl
    obtain ⟨cs, hcs, he⟩ := hl
    cases he
    obtain ⟨b, vs, hE, _, _, ⟨⟨ty, hheap⟩, hsz, hpl, hR, _⟩⟩ := h.obj l row hcs
    have hrv : R1 G.S G.E (.hp l off) v := hp.rv
    cases hrv with
    | hp _ _ b' hb' =>
      rw [hE] at hb'
      have := Option.some.inj hb'; subst this
      have hcell : ∀ j, w.cell? ⟨b, j, none⟩ = vs[j]? := fun j => by simp [World.cell?, hheap]
      have hf : ∀ (j : Nat) (x : AV), row[j]? = some x → vs[j]? = some (vs.getD j Go.undef) := fun j x hx => by
        have hj : j < vs.size := by rw [hsz]; exact (List.getElem?_eq_some_iff.1 hx).1
        simp [Array.getD, hj]
      obtain ⟨q1, q2, q3, q4⟩ := part_R (G := G) (f := fun j => vs.getD j Go.undef) hr (fun _ => trivial) hpl (fun j x hx => hR j x _ hx (hf j x hx))
      have hrun : (loadVar t ⟨b, off, none⟩).run P w = .ok (if g then .agg ((List.range n).map fun j => vs.getD (off + j) Go.undef).toArray else vs.getD off Go.undef) w := by
        have := run_loadVar (P := P) (w := w) hg hn b off (fun j => vs.getD (off + j) Go.undef) (fun hgt j hj => by
          have hjl : off + j < row.length := by have := (q1 hgt).1; omega
          rw [hcell]; exact hf _ _ (List.getElem?_eq_getElem hjl)) (fun hgf => by
          have hjl : off < row.length := (q2 hgf).1
          rw [hcell]; exact hf _ _ (List.getElem?_eq_getElem hjl))
        simp only [Nat.add_zero] at this
        exact this
      rw [keep_other (by intro g t off h; cases h)]
      refine ⟨_, _, rfl, hrun, (.of_noId (strip_R1 ?_) (noId_strip q4))⟩
      cases g with
      | true => exact (q1 rfl).2
      | false => exact (q2 rfl).2

theorem q_load (h : Inv E0 w0 Z G F a w) (hd : d < F.n) {o : Oper} {t : TypeId} {p : Operand} (ho : o.op = .load t p) {ds : List Nat} {row : List AV} {off n : Nat} {g : Bool} {r : AV}
    (hl : F.look ds (F.ev p) = some (row, off)) (hn : tsz P t = some n) (hg : tagg P t = some g) (hr : partA g n row off = some r) : Yields E0 w0 Z lab d G F a w P o (keep (F.ev p) r) := by
  obtain ⟨ad, v, h1, h2, h3⟩ := q_loadO h hl hn hg hr
  exact Yields.same h hd (v := v) (by simp [execOp, ho, h1, Instr.loadAt, Instr.sureAddr, Sem.run_bind, h2]) h3

theorem q_nil (h : Inv E0 w0 Z G F a w) (hd : d < F.n) {o : Oper} {x : Operand} (ho : o.op = .nilCheck x) (hx : ∃ k y, (F.ev x).shift k = some y) : Yields E0 w0 Z lab d G F a w P o (F.ev x) := by
  obtain ⟨k, y, hy⟩ := hx
  obtain ⟨b, q, hv, _⟩ := shift_R hy (opd h x).rv
  exact Yields.same h hd (v := a.eval x) (by simp [execOp, ho, hv]) (opd h x)

theorem part_run (cs : List Value) {t : TypeId} {g : Bool} {n off : Nat} (hg : tagg P t = some g) (hn : tsz P t = some n) (h1 : g = true → off + n ≤ cs.length) (h2 : g = false → off < cs.length) :
    (part t cs.toArray off).run P w = .ok (if g then .agg ((List.range n).map fun j => cs.getD (off + j) Go.undef).toArray else cs.getD off Go.undef) w := by
  cases g with
  | true =>
    simp only [part, Sem.run_bind, run_tagg hg, Result.andThen_ok, if_true, run_tsz hn, Sem.run_pure]
    congr 2
    apply Array.ext'
    have := h1 rfl
    apply List.ext_getElem?
    intro j
    by_cases hj : j < n
    · have hlt : off + j < cs.length := by omega
      simp [hj, List.getD, Array.toList_extract, hlt]
    · simp [hj, Array.toList_extract]
      omega
  | false =>
    have := h2 rfl
    simp [part, Sem.run_bind, run_tagg hg, List.getD, this]
end
end Go.Proofs.V
