/- The quiet operations: each of them does what is reckoned. -/
import Derived.Test.YtdgihbbekacgcaaGreatDoorK2
import Derived.Laws.BytesString
namespace Go.Proofs.V
open Go Go.RowKit
set_option linter.unusedVariables false
set_option linter.unusedSimpArgs false
section
variable {E0 : Nat → Prop} {w0 : Ent} {Z : Nat → Prop} {G : Gh} {F : St} {a : Act} {w : World} {P : Program} {lab : Nat} {d : Nat}
theorem q_move (h : Inv E0 w0 Z G F a w) (hd : d < F.n) {o : Oper} {x : Operand} (ho : o.op = .move x ∨ o.op = .assign x) : Yields E0 w0 Z lab d G F a w P o (F.ev x) :=
  Yields.same h hd (v := a.eval x) (by rcases ho with ho | ho <;> simp [execOp, ho]) (opd h x)

theorem bool_opd {x : AV} {v : Value} {t : Bool} (h : Opd G F Z x v) (hx : x = .at (.bool t)) : v = .bool t := by
  subst hx
  have := h.rv
  cases this
  rfl
theorem q_pick (h : Inv E0 w0 Z G F a w) (hd : d < F.n) {o : Oper} {c x y : Operand} (ho : o.op = .pick c x y) {t : Bool} (hc : F.ev c = .at (.bool t)) : Yields E0 w0 Z lab d G F a w P o (if t then F.ev x else F.ev y) := by
  have hv := bool_opd (opd h c) hc
  cases t with
  | true => exact Yields.same h hd (v := a.eval x) (by simp [execOp, ho, hv, asBool]) (opd h x)
  | false => exact Yields.same h hd (v := a.eval y) (by simp [execOp, ho, hv, asBool]) (opd h y)

theorem q_alloc (h : Inv E0 w0 Z G F a w) (hz : ∀ n, Z1 lab n → ¬ Z n) (hd : d < F.n) {o : Oper} {e : TypeId} (ho : o.op = .alloc e) {cs : List AV} (hc : tzero P e = some cs) : Yields E0 w0 Z lab d G F a w P o (.box lab cs) := by
  obtain ⟨i, z, h1, h2, rfl, hp, hl⟩ := tzero_info hc
  refine Yields.box h hz hd (vs := z.cells) (ty := e) ?_ ⟨hl.symm, hp, absV_cells G z hp⟩ ?_
  · simp [execOp, ho, Instr.alloc, Sem.run_bind, run_zero h1 h2, newVar, newRow]
  · intro y hy rows nl n he
    subst he
    unfold AV.cells at hy
    split at hy
    · rename_i cs hcs
      exact noId_absV z n ⟨_, by rw [hcs]; exact hy, rows, nl, rfl⟩
    · rename_i hna
      simp at hy
      exact noId_absV z n ⟨.slice rows nl (.id n), by rw [← hy]; simp [parts], rows, nl, rfl⟩

theorem opd_R1 {x : AV} {v : Value} (h : Opd G F Z x v) (hx : x.free = true) : R1 G.S G.E x v := R1_of h.rv hx
theorem storable_free {x : AV} (h : x.storable = true) : x.free = true := by
  unfold AV.storable at h
  unfold AV.free
  split at h <;> first | (cases h; done) | (split <;> simp_all)
theorem q_box (h : Inv E0 w0 Z G F a w) (hz : ∀ n, Z1 lab n → ¬ Z n) (hd : d < F.n) {o : Oper} {e : TypeId} {x : Operand} (ho : o.op = .box e x) (hs : (F.ev x).storable = true) : Yields E0 w0 Z lab d G F a w P o (.box lab ((F.ev x).cells.map strip1)) := by
  have hr := opd_R1 (opd h x) (storable_free hs)
  refine Yields.box h hz hd (vs := (a.eval x).cells) (ty := e) ?_ (cells_R1 hr hs).strip ?_
  · simp [execOp, ho, Instr.box, Sem.run_bind, newVar, newRow]
  · intro y hy rows nl n he
    subst he
    obtain ⟨u, _, hu⟩ := List.mem_map.1 hy
    exact noId_strip1 u _ _ _ hu

theorem strip2_slice {x : AV} : (∃ rows nl own, x = .slice rows nl own ∧ strip2 x = x) ∨ strip2 x = strip x := by
  unfold strip2
  split
  · exact .inl ⟨_, _, _, rfl, rfl⟩
  · exact .inr rfl
theorem q_extract (h : Inv E0 w0 Z G F a w) (hd : d < F.n) {o : Oper} {x : Operand} {i : Nat} (ho : o.op = .extract x i) {vs : List AV} (hx : F.ev x = .tup vs) {y : AV} (hy : vs[i]? = some y) : Yields E0 w0 Z lab d G F a w P o (strip2 y) := by
  have ho' := opd h x
  rw [hx] at ho'
  have hr : R1 G.S G.E (.tup vs) (a.eval x) := ho'.rv
  generalize hv : a.eval x = v at *
  cases hr with
  | tup _ us hl hpt =>
    obtain ⟨u, hu⟩ : ∃ u, us[i]? = some u := by
      have : i < vs.length := (List.getElem?_eq_some_iff.1 hy).1
      exact ⟨us[i]'(by omega), List.getElem?_eq_getElem (by omega)⟩
    have hr := hpt i y u hy hu
    have hrun : (execOp a.eval o).run P w = .ok (.value u) w := by simp [execOp, ho, hv, Instr.extract, hu]
    rcases strip2_slice (x := y) with ⟨rows, nl, own, rfl, e⟩ | e
    · rw [e]
      refine Yields.same h hd hrun ⟨RV_of hr, (by rintro g cs h; cases h), ?_, fun n hn => ?_⟩
      · intro j z t hz ht
        cases j with
        | succ j => simp [parts] at hz
        | zero =>
          have hvp : vparts u = [u] := by cases hr <;> rfl
          rw [hvp] at ht
          simp [parts] at hz ht
          subst hz; subst ht
          exact ho'.cl i _ _ hy (by simpa [vparts] using hu)
      · obtain ⟨z, hz, r2, n2, rfl⟩ := hn
        simp only [parts, List.mem_singleton] at hz
        exact ho'.ids n ⟨_, by simp only [parts]; exact List.mem_of_getElem? hy, r2, n2, hz.symm⟩
    · rw [e]
      exact Yields.same h hd hrun (.of_noId (strip_R1 hr) (noId_strip (by rintro g cs rfl; cases hr)))

theorem q_pr (h : Inv E0 w0 Z G F a w) (hd : d < F.n) {o : Oper} {s : Sem Value} {u : Value} (hrun : execOp a.eval o = (do pure (.value (← s)))) (hs : pr P s = some u) : Yields E0 w0 Z lab d G F a w P o (absV u) := by
  refine Yields.same h hd (v := u) ?_ (.of_noId (absV_R1 _ _ u) (noId_absV u))
  rw [hrun]
  simp [Sem.run_bind, pr_run s u hs]

theorem val_free {x : AV} {u : Value} (h : x.val = some u) (hb : ∀ g cs, x ≠ .box g cs) : ∀ {v}, RV G x v → v = u := by
  intro v hv
  cases x with
  | fp g t off => simp [AV.val, val1] at h
  | box g cs => exact absurd rfl (hb g cs)
  | _ => exact val_R1 h hv
theorem q_bin (h : Inv E0 w0 Z G F a w) (hd : d < F.n) {o : Oper} {op : BinOp} {xt yt : TypeId} {x y : Operand} (ho : o.op = .binOp op xt x y yt) {r : AV} (hr : binA P op xt x y (F.ev x) (F.ev y) = some r) : Yields E0 w0 Z lab d G F a w P o r := by
  unfold binA at hr
  split at hr
  · rename_i u v hu hv
    simp only [Option.map_eq_some_iff] at hr
    obtain ⟨q, hq, rfl⟩ := hr
    have e1 := val_free hu (opd h x).nb (opd h x).rv
    have e2 := val_free hv (opd h y).nb (opd h y).rv
    refine q_pr h hd (s := do eqGuard op xt x y u v; binOp op xt u v) ?_ hq
    simp only [execOp, ho, e1, e2]
  · cases hr
theorem q_un (h : Inv E0 w0 Z G F a w) (hd : d < F.n) {o : Oper} {op : UnOp} {xt : TypeId} {x : Operand} (ho : o.op = .unOp op xt x) {u r : Value} (hu : (F.ev x).val = some u) (hr : pr P (Op.unary op u) = some r) : Yields E0 w0 Z lab d G F a w P o (absV r) := by
  have e1 := val_free hu (opd h x).nb (opd h x).rv
  exact q_pr h hd (s := Op.unary op u) (by simp only [execOp, ho, e1]) hr

theorem shift_R {x y : AV} {k : Nat} (hs : x.shift k = some y) {v : Value} (hr : RV G x v) : ∃ b o, v = .pointer (some ⟨b, o, none⟩) ∧ RV G y (.pointer (some ⟨b, o + k, none⟩)) ∧ NoId y ∧ (∀ g cs, y ≠ .box g cs) := by
  cases x <;> simp only [AV.shift] at hs <;> first | (cases hs; done) | skip
  · rename_i row off
    have := Option.some.inj hs; subst this
    have hr : R1 G.S G.E (.ref row off) v := hr
    cases hr with
    | ref _ _ b o val hpl h1 h2 =>
      refine ⟨b, o + off, rfl, ?_, by rintro n ⟨y, hy, rows, nl, rfl⟩; simp [parts] at hy, by intro g cs h; cases h⟩
      have := R1.ref (S := G.S) (E := G.E) row (off + k) b o val hpl h1 h2
      rw [← Nat.add_assoc] at this
      exact this
  · rename_i g t off
    have := Option.some.inj hs; subst this
    obtain ⟨b, hb, rfl⟩ := hr
    exact ⟨b, off, rfl, ⟨b, hb, rfl⟩, noId_fp _ _ _, by intro g cs h; cases h⟩
  · rename_i l off
    have := Option.some.inj hs; subst this
    have hr : R1 G.S G.E (.hp l off) v := hr
    cases hr with
    | hp _ _ b hb => exact ⟨b, off, rfl, R1.hp l (off + k) b hb, by rintro n ⟨y, hy, rows, nl, rfl⟩; simp [parts] at hy, by intro g cs h; cases h⟩
theorem add_none (b o k : Nat) : (⟨b, o, none⟩ : Addr).add k = ⟨b, o + k, none⟩ := by
  unfold Addr.add
  split
  · rename_i h; subst h; rfl
  · rfl

theorem q_fieldAddr (h : Inv E0 w0 Z G F a w) (hd : d < F.n) {o : Oper} {t : TypeId} {x : Operand} {i : Nat} (ho : o.op = .fieldAddr t x i) {r : AV} (hr : fieldAddrA P t (F.ev x) i = some r) : Yields E0 w0 Z lab d G F a w P o r := by
  unfold fieldAddrA at hr
  split at hr
  · rename_i off sz hpl
    split at hr
    · cases hr
    · rename_i hne
      unfold placeOf at hpl
      split at hpl
      · rename_i off' ft hf
        simp only [Option.map_eq_some_iff] at hpl
        obtain ⟨sz', hsz, he⟩ := hpl
        cases he
        obtain ⟨fs, f, hu, hfi, ho1, ho2⟩ := tfield_und hf
        obtain ⟨b, p, hv, hrv, hni, hnb⟩ := shift_R hr (opd h x).rv
        refine Yields.same h hd (v := .pointer (some ⟨b, p + off, none⟩)) ?_ ⟨hrv, hnb, Cl_of_noId hni, fun n hn => (hni n hn).elim⟩
        simp [execOp, ho, hv, Instr.fieldAt, Sem.run_bind, run_underlying hu, hfi, Instr.sureAddr, fieldPlace, ho2, run_tsz hsz, hne, ho1, add_none]
      · cases hpl
  · cases hr

theorem int_opd {x : AV} {v : Value} {n : Int} (hb : RV G x v) (hx : intOfA x = some n) : ∃ k, v = .int k n := by
  unfold intOfA at hx
  split at hx
  · have := Option.some.inj hx; subst this
    cases hb
    exact ⟨_, rfl⟩
  · cases hx

theorem cellAt_row {rows : List (List AV)} {i : Nat} {row : List AV} (h : rows[i]? = some row) (j : Nat) : cellAt rows i j = row[j]? := by simp [cellAt, h]

theorem q_indexAddr (h : Inv E0 w0 Z G F a w) (hd : d < F.n) {o : Oper} {t : TypeId} {x i : Operand} (ho : o.op = .indexAddr t x i) {r : AV} (hr : indexAddrA P t (F.ev x) (F.ev i) = some r) : Yields E0 w0 Z lab d G F a w P o r := by
  unfold indexAddrA at hr
  split at hr
  · rename_i rows nl own n hx hi
    obtain ⟨k, hiv⟩ := int_opd (opd h i).rv hi
    split at hr
    · rename_i e he
      split at hr
      · rename_i h0
        split at hr
        · rename_i row hrow
          split at hr
          · rename_i hsz
            have := Option.some.inj hr; subst this
            have hlt : n.toNat < rows.length := (List.getElem?_eq_some_iff.1 hrow).1
            have hxr := (opd h x).rv
            rw [hx] at hxr
            have hxr : R1 G.S G.E (.slice rows nl own) (a.eval x) := hxr
            generalize hv : a.eval x = v at *
            cases hxr with
            | nil => simp at hlt
            | slice _ _ b off cap sz val hlen hall hfull hpl h1 h2 =>
              have hszr : row.length = sz := hall row (List.mem_of_getElem? hrow)
              have hcell := cellAt_row hrow
              refine Yields.same h hd (v := .pointer (some ⟨b, off + n.toNat * sz, none⟩)) ?_ (.of_noId ?_ ?_)
              · have hn : n < (rows.length : Int) := by omega
                simp [execOp, ho, hv, hiv, Instr.indexAt, asIntOf, Sem.run_bind, run_underlying (tel_und he), run_tsz hsz, h0, hn, add_none, hszr]
              · refine R1.ref row 0 b (off + n.toNat * sz) (fun j => val n.toNat j) (fun x hx => ?_) (fun j x hx => ?_) (fun j x hx => ?_)
                · obtain ⟨j, hj⟩ := List.getElem?_of_mem hx
                  exact hpl n.toNat j x (by rw [hcell]; exact hj)
                · have := h1 n.toNat j x (by rw [hcell]; exact hx)
                  rw [Nat.add_assoc]; exact this
                · exact h2 n.toNat j x (by rw [hcell]; exact hx)
              · rintro n ⟨y, hy, rows, nl, rfl⟩; simp [parts] at hy
          · cases hr
        · cases hr
      · cases hr
    · cases hr
  · rename_i loc off len cap sz n hx hi
    obtain ⟨k, hiv⟩ := int_opd (opd h i).rv hi
    split at hr
    · rename_i e he
      split at hr
      · rename_i h0
        have := Option.some.inj hr; subst this
        have hxr := (opd h x).rv
        rw [hx] at hxr
        have hxr : R1 G.S G.E (.hs loc off len cap sz) (a.eval x) := hxr
        generalize hv : a.eval x = v at *
        cases hxr with
        | hs _ _ _ _ _ b hb =>
          refine Yields.same h hd (v := .pointer (some ⟨b, off + n.toNat * sz, none⟩)) ?_ (.of_noId (.hp _ _ _ hb) ?_)
          · simp [execOp, ho, hv, hiv, Instr.indexAt, asIntOf, Sem.run_bind, run_underlying (tel_und he), run_tsz h0.2.2, h0.1, h0.2.1, add_none]
          · rintro n ⟨y, hy, rows, nl, rfl⟩; simp [parts] at hy
      · cases hr
    · cases hr
  · rename_i n hi hnx hnh
    obtain ⟨k, hiv⟩ := int_opd (opd h i).rv hi
    split at hr
    · rename_i len e he
      split at hr
      · rename_i h0
        split at hr
        · rename_i sz hsz
          obtain ⟨b, q, hv, hrv, hni, hnb⟩ := shift_R hr (opd h x).rv
          refine Yields.same h hd (v := .pointer (some ⟨b, q + n.toNat * sz, none⟩)) ?_ ⟨hrv, hnb, Cl_of_noId hni, fun n hn => (hni n hn).elim⟩
          simp [execOp, ho, hv, hiv, Instr.indexAt, asIntOf, Sem.run_bind, run_underlying (tarr_und he), run_tsz hsz, h0.1, h0.2, add_none, Instr.sureAddr]
        · cases hr
      · cases hr
    · cases hr
  · cases hr
end
end Go.Proofs.V
namespace Go.Proofs.V
open Go Go.RowKit
set_option linter.unusedVariables false
set_option linter.unusedSimpArgs false
section
variable {E0 : Nat → Prop} {w0 : Ent} {Z : Nat → Prop} {G : Gh} {F : St} {a : Act} {w : World} {P : Program} {lab : Nat} {d : Nat}
theorem plain_parts {x : AV} (h : x.plain = true) : parts x = [x] := by cases x <;> first | rfl | (cases h)
/-- A part of a row against the part of the cells. -/
theorem part_R {cs : List AV} {f : Nat → Value} {g : Bool} {n off : Nat} {r : AV} (hp : partA g n cs off = some r) (hn : g = false → True) (hpl : ∀ x ∈ cs, AV.plain x = true)
    (hR : ∀ (j : Nat) (x : AV), cs[j]? = some x → R1 G.S G.E x (f j)) : (g = true → off + n ≤ cs.length ∧ R1 G.S G.E r (.agg ((List.range n).map fun j => f (off + j)).toArray)) ∧ (g = false → off < cs.length ∧ R1 G.S G.E r (f off)) ∧ (∀ n, HasId n r → ∃ (j : Nat) (x : AV), cs[j]? = some x ∧ HasId n x) ∧ (∀ g cs, r ≠ .box g cs) := by
  unfold partA at hp
  cases g with
  | true =>
    simp only [if_true, Option.map_eq_some_iff, take?] at hp
    obtain ⟨l, hl, rfl⟩ := hp
    split at hl
    · rename_i hle
      have := Option.some.inj hl; subst this
      refine ⟨fun _ => ⟨hle, ?_⟩, (by intro h; cases h), ?_, by intro g cs h; cases h⟩
      · refine R1.agg _ _ (by simp; omega) ?_ ?_
        · intro x hx
          exact hpl x (List.mem_of_mem_drop (List.mem_of_mem_take hx))
        · intro j x v hx hv
          rw [List.getElem?_take] at hx
          split at hx
          · rename_i hjn
            rw [List.getElem?_drop] at hx
            have := hR _ _ hx
            rw [List.getElem?_map, List.getElem?_range hjn] at hv
            simp at hv
            subst hv
            exact this
          · cases hx
      · rintro n ⟨y, hy, rows, nl, rfl⟩
        simp only [parts] at hy
        have hm := List.mem_of_mem_drop (List.mem_of_mem_take hy)
        obtain ⟨j, hj⟩ := List.getElem?_of_mem hm
        exact ⟨j, _, hj, ⟨_, by simp [parts], rows, nl, rfl⟩⟩
    · cases hl
  | false =>
    simp only [Bool.false_eq_true, if_false] at hp
    refine ⟨(by intro h; cases h), fun _ => ⟨(List.getElem?_eq_some_iff.1 hp).1, hR _ _ hp⟩, fun n hi => ⟨off, r, hp, hi⟩, ?_⟩
    rintro g cs rfl
    have := hpl _ (List.mem_of_getElem? hp)
    cases this

theorem run_loadVar {t : TypeId} {g : Bool} {n : Nat} (hg : tagg P t = some g) (hn : tsz P t = some n) (b o : Nat) (f : Nat → Value) (h1 : g = true → ∀ j, j < n → w.cell? ⟨b, o + j, none⟩ = some (f j)) (h2 : g = false → w.cell? ⟨b, o, none⟩ = some (f 0)) :
    (loadVar t ⟨b, o, none⟩).run P w = .ok (if g then .agg ((List.range n).map f).toArray else f 0) w := by
  cases g with
  | true =>
    simp only [loadVar, Sem.run_bind, run_tagg hg, Result.andThen_ok, if_true, run_tsz hn]
    rw [run_loadCells w ⟨b, o, none⟩ n f (fun j hj => by rw [add_none]; exact h1 rfl j hj)]
    rfl
  | false =>
    simp only [loadVar, Sem.run_bind, run_tagg hg, Result.andThen_ok, Bool.false_eq_true, if_false, run_load, h2 rfl]

theorem keep_other {p x : AV} (h : ∀ g t off, p ≠ .fp g t off) : keep p x = strip x := by
  unfold keep
  split
  · rename_i h'; exact absurd rfl (h _ _ _)
  · rfl
theorem q_loadO (h : Inv E0 w0 Z G F a w) {t : TypeId} {p : Operand} {ds : List Nat} {row : List AV} {off n : Nat} {g : Bool} {r : AV}
    (hl : F.look ds (F.ev p) = some (row, off)) (hn : tsz P t = some n) (hg : tagg P t = some g) (hr : partA g n row off = some r) : ∃ ad v, a.eval p = .pointer (some ad) ∧ (loadVar t ad).run P w = .ok v w ∧ Opd G F Z (keep (F.ev p) r) v := by
  have hp := opd h p
  generalize hpv : F.ev p = pv at *
  generalize hv : a.eval p = v at *
  cases pv <;> simp only [St.look] at hl <;> first | (cases hl; done) | skip
  · -- a row that nobody writes
    rename_i row' off'
    have := Option.some.inj hl
    cases this
    have hrv : R1 G.S G.E (.ref row off) v := hp.rv
    cases hrv with
    | ref _ _ b o' val hpl h1 h2 =>
      obtain ⟨q1, q2, q3, q4⟩ := part_R (G := G) (f := val) hr (fun _ => trivial) hpl h2
      have hrun : (loadVar t ⟨b, o' + off, none⟩).run P w = .ok (if g then .agg ((List.range n).map fun j => val (off + j)).toArray else val off) w := by
        have := run_loadVar (P := P) (w := w) hg hn b (o' + off) (fun j => val (off + j)) (fun hgt j hj => by
          have hjl : off + j < row.length := by have := (q1 hgt).1; omega
          rw [Nat.add_assoc]
          exact h.mem _ _ (h1 _ _ (List.getElem?_eq_getElem hjl))) (fun hgf => h.mem _ _ (h1 off _ (List.getElem?_eq_getElem (q2 hgf).1)))
        simp only [Nat.add_zero] at this
        exact this
      rw [keep_other (by intro g t off h; cases h)]
      refine ⟨_, _, rfl, hrun, (.of_noId (strip_R1 ?_) (noId_strip q4))⟩
      cases g with
      | true => exact (q1 rfl).2
      | false => exact (q2 rfl).2
  · -- a box
    rename_i gg tt off'
    split at hl
    · cases hl
    · split at hl
      · rename_i g' cs hcs
        split at hl
        · rename_i hgg
          have := Option.some.inj hl
          cases this
          subst hgg
          obtain ⟨b, vs, hB, _, _, ⟨⟨ty, hheap⟩, hsz, hpl, hR, _⟩, hcl⟩ := h.box tt gg row hcs
          obtain ⟨b', hb', rfl⟩ := hp.rv
          rw [hB] at hb'
          have := Option.some.inj hb'; subst this
          have hcell : ∀ j, w.cell? ⟨b, j, none⟩ = vs[j]? := fun j => by simp [World.cell?, hheap]
          have hf : ∀ (j : Nat) (x : AV), row[j]? = some x → vs[j]? = some (vs.getD j Go.undef) := fun j x hx => by
            have hj : j < vs.size := by rw [hsz]; exact (List.getElem?_eq_some_iff.1 hx).1
            simp [Array.getD, hj]
          obtain ⟨q1, q2, q3, q4⟩ := part_R (G := G) (f := fun j => vs.getD j Go.undef) hr (fun _ => trivial) hpl (fun j x hx => hR j x _ hx (hf j x hx))
          have hrun : (loadVar t ⟨b, off, none⟩).run P w = .ok (if g then .agg ((List.range n).map fun j => vs.getD (off + j) Go.undef).toArray else vs.getD off Go.undef) w := by
            have := run_loadVar (P := P) (w := w) hg hn b off (fun j => vs.getD (off + j) Go.undef) (fun hgt j hj => by
              have hjl : off + j < row.length := by have := (q1 hgt).1; omega
              rw [hcell]; exact hf _ _ (List.getElem?_eq_getElem hjl)) (fun hgf => by
              have hjl : off < row.length := (q2 hgf).1
              rw [hcell]; exact hf _ _ (List.getElem?_eq_getElem hjl))
            simp only [Nat.add_zero] at this
            exact this
          refine ⟨_, _, rfl, hrun, ?_⟩
          show Opd G F Z r _
          cases g with
          | true =>
            refine ⟨RV_of (q1 rfl).2, q4, ?_, fun n hn => ?_⟩
            · intro j y u hy hu
              simp only [partA, if_true, Option.map_eq_some_iff, take?] at hr
              obtain ⟨l, hl', rfl⟩ := hr
              split at hl'
              · have := Option.some.inj hl'; subst this
                simp only [parts] at hy
                rw [List.getElem?_take] at hy
                split at hy
                · rename_i hjn
                  rw [List.getElem?_drop] at hy
                  simp only [if_true, vparts, List.getElem?_map, List.getElem?_range hjn, Option.map_some, Option.some.injEq] at hu
                  subst hu
                  exact hcl _ _ _ hy (hf _ _ hy)
                · cases hy
              · cases hl'
            · obtain ⟨j, x, hx, hi⟩ := q3 n hn
              have hpx := hpl x (List.mem_of_getElem? hx)
              obtain ⟨y, hy, rows, nl, rfl⟩ := hi
              have hxy : x = .slice rows nl (.id n) := by
                rw [plain_parts hpx] at hy
                exact (List.mem_singleton.1 hy).symm
              exact h.ids tt n ⟨_, by rw [hcs]; simp [parts]; exact List.mem_of_getElem? hx, rows, nl, hxy⟩
          | false =>
            simp only [partA, Bool.false_eq_true, if_false] at hr
            have hpx := hpl r (List.mem_of_getElem? hr)
            refine ⟨RV_of (q2 rfl).2, q4, ?_, fun n hn => ?_⟩
            · intro j y u hy hu
              have hpr : parts r = [r] := by cases r <;> first | rfl | (cases hpx)
              have hone := R1.one (q2 rfl).2 hpx
              have hvp : vparts (vs.getD off Go.undef) = [vs.getD off Go.undef] := by
                generalize vs.getD off Go.undef = z at *
                cases z <;> first | rfl | (cases hone)
              rw [hpr] at hy
              simp only [Bool.false_eq_true, if_false, hvp] at hu
              cases j with
              | succ j => simp at hy
              | zero =>
                have e1 : r = y := Option.some.inj hy
                have e2 : vs.getD off Go.undef = u := Option.some.inj hu
                subst e1; subst e2
                exact hcl off _ _ hr (hf _ _ hr)
            · obtain ⟨y, hy, rows, nl, rfl⟩ := hn
              have hxy : r = .slice rows nl (.id n) := by
                rw [plain_parts hpx] at hy
                exact (List.mem_singleton.1 hy).symm
              exact h.ids tt n ⟨_, by rw [hcs]; simp [parts]; exact List.mem_of_getElem? hr, rows, nl, hxy⟩
        · cases hl
      · cases hl
  · -- the heap
    rename_i l off'
    split at hl
    · cases hl
    simp only [Option.map_eq_some_iff] at hl
    obtain ⟨cs, hcs, he⟩ := hl
    cases he
    obtain ⟨b, vs, hE, _, _, ⟨⟨ty, hheap⟩, hsz, hpl, hR, _⟩⟩ := h.obj l row hcs
    have hrv : R1 G.S G.E (.hp l off) v := hp.rv
    cases hrv with
    | hp _ _ b' hb' =>
      rw [hE] at hb'
      have := Option.some.inj hb'; subst this
      have hcell : ∀ j, w.cell? ⟨b, j, none⟩ = vs[j]? := fun j => by simp [World.cell?, hheap]
      have hf : ∀ (j : Nat) (x : AV), row[j]? = some x → vs[j]? = some (vs.getD j Go.undef) := fun j x hx => by
        have hj : j < vs.size := by rw [hsz]; exact (List.getElem?_eq_some_iff.1 hx).1
        simp [Array.getD, hj]
      obtain ⟨q1, q2, q3, q4⟩ := part_R (G := G) (f := fun j => vs.getD j Go.undef) hr (fun _ => trivial) hpl (fun j x hx => hR j x _ hx (hf j x hx))
      have hrun : (loadVar t ⟨b, off, none⟩).run P w = .ok (if g then .agg ((List.range n).map fun j => vs.getD (off + j) Go.undef).toArray else vs.getD off Go.undef) w := by
        have := run_loadVar (P := P) (w := w) hg hn b off (fun j => vs.getD (off + j) Go.undef) (fun hgt j hj => by
          have hjl : off + j < row.length := by have := (q1 hgt).1; omega
          rw [hcell]; exact hf _ _ (List.getElem?_eq_getElem hjl)) (fun hgf => by
          have hjl : off < row.length := (q2 hgf).1
          rw [hcell]; exact hf _ _ (List.getElem?_eq_getElem hjl))
        simp only [Nat.add_zero] at this
        exact this
      rw [keep_other (by intro g t off h; cases h)]
      refine ⟨_, _, rfl, hrun, (.of_noId (strip_R1 ?_) (noId_strip q4))⟩
      cases g with
      | true => exact (q1 rfl).2
      | false => exact (q2 rfl).2

theorem q_load (h : Inv E0 w0 Z G F a w) (hd : d < F.n) {o : Oper} {t : TypeId} {p : Operand} (ho : o.op = .load t p) {ds : List Nat} {row : List AV} {off n : Nat} {g : Bool} {r : AV}
    (hl : F.look ds (F.ev p) = some (row, off)) (hn : tsz P t = some n) (hg : tagg P t = some g) (hr : partA g n row off = some r) : Yields E0 w0 Z lab d G F a w P o (keep (F.ev p) r) := by
  obtain ⟨ad, v, h1, h2, h3⟩ := q_loadO h hl hn hg hr
  exact Yields.same h hd (v := v) (by simp [execOp, ho, h1, Instr.loadAt, Instr.sureAddr, Sem.run_bind, h2]) h3

theorem q_nil (h : Inv E0 w0 Z G F a w) (hd : d < F.n) {o : Oper} {x : Operand} (ho : o.op = .nilCheck x) (hx : ∃ k y, (F.ev x).shift k = some y) : Yields E0 w0 Z lab d G F a w P o (F.ev x) := by
  obtain ⟨k, y, hy⟩ := hx
  obtain ⟨b, q, hv, _⟩ := shift_R hy (opd h x).rv
  exact Yields.same h hd (v := a.eval x) (by simp [execOp, ho, hv]) (opd h x)

theorem part_run (cs : List Value) {t : TypeId} {g : Bool} {n off : Nat} (hg : tagg P t = some g) (hn : tsz P t = some n) (h1 : g = true → off + n ≤ cs.length) (h2 : g = false → off < cs.length) :
    (part t cs.toArray off).run P w = .ok (if g then .agg ((List.range n).map fun j => cs.getD (off + j) Go.undef).toArray else cs.getD off Go.undef) w := by
  cases g with
  | true =>
    simp only [part, Sem.run_bind, run_tagg hg, Result.andThen_ok, if_true, run_tsz hn, Sem.run_pure]
    congr 2
    apply Array.ext'
    have := h1 rfl
    apply List.ext_getElem?
    intro j
    by_cases hj : j < n
    · have hlt : off + j < cs.length := by omega
      simp [hj, List.getD, Array.toList_extract, hlt]
    · simp [hj, Array.toList_extract]
      omega
  | false =>
    have := h2 rfl
    simp [part, Sem.run_bind, run_tagg hg, List.getD, this]
end
end Go.Proofs.V
namespace Go.Proofs.V
open Go Go.RowKit
set_option linter.unusedVariables false
set_option linter.unusedSimpArgs false
section
variable {E0 : Nat → Prop} {w0 : Ent} {Z : Nat → Prop} {G : Gh} {F : St} {a : Act} {w : World} {P : Program} {lab : Nat} {d : Nat}
theorem nid_at (v : Value) : NoId (.at v) := by rintro n ⟨y, hy, rows, nl, rfl⟩; simp [parts] at hy

/-- A part of an aggregate that is held as a value. -/
theorem part_opd {cs : List AV} {vs : List Value} (hx : Opd G F Z (.agg cs) (.agg vs.toArray)) (hl : vs.length = cs.length) (hpl : ∀ x ∈ cs, AV.plain x = true)
    (hR : ∀ (j : Nat) (x : AV) (v : Value), cs[j]? = some x → vs[j]? = some v → R1 G.S G.E x v) {g : Bool} {n off : Nat} {r : AV} (hp : partA g n cs off = some r) :
    (g = true → off + n ≤ vs.length) ∧ (g = false → off < vs.length) ∧ Opd G F Z r (if g then .agg ((List.range n).map fun j => vs.getD (off + j) Go.undef).toArray else vs.getD off Go.undef) := by
  have hf : ∀ (j : Nat) (x : AV), cs[j]? = some x → vs[j]? = some (vs.getD j Go.undef) := fun j x hx => by
    have hj : j < vs.length := by rw [hl]; exact (List.getElem?_eq_some_iff.1 hx).1
    simp [List.getD, hj]
  obtain ⟨q1, q2, q3, q4⟩ := part_R (G := G) (f := fun j => vs.getD j Go.undef) hp (fun _ => trivial) hpl (fun j x hx => hR j x _ hx (hf j x hx))
  have hcl : ∀ (j : Nat) (x : AV), cs[j]? = some x → Cl1 G F.al x (vs.getD j Go.undef) := fun j x hxj => hx.cl j x _ hxj (by simpa [vparts] using hf j x hxj)
  refine ⟨fun hg => by rw [hl]; exact (q1 hg).1, fun hg => by rw [hl]; exact (q2 hg).1, ?_⟩
  cases g with
  | true =>
    refine ⟨RV_of (q1 rfl).2, q4, ?_, fun n hn => ?_⟩
    · intro j y u hy hu
      simp only [partA, if_true, Option.map_eq_some_iff, take?] at hp
      obtain ⟨l, hl', rfl⟩ := hp
      split at hl'
      · have := Option.some.inj hl'; subst this
        simp only [parts] at hy
        rw [List.getElem?_take] at hy
        split at hy
        · rename_i hjn
          rw [List.getElem?_drop] at hy
          simp only [if_true, vparts, List.getElem?_map, List.getElem?_range hjn, Option.map_some, Option.some.injEq] at hu
          subst hu
          exact hcl _ _ hy
        · cases hy
      · cases hl'
    · obtain ⟨j, x, hxj, hi⟩ := q3 n hn
      have hpx := hpl x (List.mem_of_getElem? hxj)
      obtain ⟨y, hy, rows, nl, rfl⟩ := hi
      rw [plain_parts hpx] at hy
      have hxy := (List.mem_singleton.1 hy).symm
      exact hx.ids n ⟨_, by simp [parts]; exact List.mem_of_getElem? hxj, rows, nl, hxy⟩
  | false =>
    simp only [partA, Bool.false_eq_true, if_false] at hp
    have hpx := hpl r (List.mem_of_getElem? hp)
    refine ⟨RV_of (q2 rfl).2, q4, ?_, fun n hn => ?_⟩
    · intro j y u hy hu
      have hone := R1.one (q2 rfl).2 hpx
      have hvp : vparts (vs.getD off Go.undef) = [vs.getD off Go.undef] := by
        generalize vs.getD off Go.undef = z at *
        cases z <;> first | rfl | (cases hone)
      rw [plain_parts hpx] at hy
      simp only [Bool.false_eq_true, if_false, hvp] at hu
      cases j with
      | succ j => simp at hy
      | zero =>
        have e1 : r = y := Option.some.inj hy
        have e2 : vs.getD off Go.undef = u := Option.some.inj hu
        subst e1; subst e2
        exact hcl off _ hp
    · obtain ⟨y, hy, rows, nl, rfl⟩ := hn
      rw [plain_parts hpx] at hy
      have hxy := (List.mem_singleton.1 hy).symm
      exact hx.ids n ⟨_, by simp [parts]; exact List.mem_of_getElem? hp, rows, nl, hxy⟩

theorem q_field (h : Inv E0 w0 Z G F a w) (hd : d < F.n) {o : Oper} {t : TypeId} {x : Operand} {i : Nat} (ho : o.op = .field t x i) {r : AV} (hr : fieldA P t (F.ev x) i = some r) : Yields E0 w0 Z lab d G F a w P o r := by
  unfold fieldA at hr
  split at hr
  · rename_i cs off ft hx hf
    split at hr
    · rename_i sz g hsz hg
      obtain ⟨fs, f, hu, hfi, ho1, ho2⟩ := tfield_und hf
      have hop := opd h x
      rw [hx] at hop
      have hrv : R1 G.S G.E (.agg cs) (a.eval x) := hop.rv
      generalize hv : a.eval x = v at *
      cases hrv with
      | agg _ vs hl hpl hR =>
        obtain ⟨q1, q2, q3⟩ := part_opd hop hl hpl hR hr
        refine Yields.same h hd ?_ q3
        have := part_run (P := P) (w := w) vs hg hsz q1 q2
        simp [execOp, ho, hv, Instr.field, Sem.run_bind, run_underlying hu, hfi, asAgg, ho1, ho2, this]
    · cases hr
  · cases hr

theorem ba_get (s : ByteArray) (i : Nat) : s[i]? = s.data.toList[i]? := by
  have : s[i]? = s.data[i]? := by simp [getElem?, decidableGetElem?]; rfl
  rw [this]; simp

theorem q_index (h : Inv E0 w0 Z G F a w) (hd : d < F.n) {o : Oper} {t : TypeId} {x i : Operand} (ho : o.op = .index t x i) {r : AV} (hr : indexA P t (F.ev x) (F.ev i) = some r) : Yields E0 w0 Z lab d G F a w P o r := by
  unfold indexA at hr
  split at hr
  · rename_i s n hx hi
    obtain ⟨k, hiv⟩ := int_opd (opd h i).rv hi
    split at hr
    · rename_i hc
      simp only [Option.map_eq_some_iff] at hr
      obtain ⟨b, hb, rfl⟩ := hr
      have hop := opd h x
      rw [hx] at hop
      have hrv : R1 G.S G.E (.at (.string s)) (a.eval x) := hop.rv
      generalize hv : a.eval x = v at *
      cases hrv
      refine Yields.same h hd (v := .int .u8 b.toNat) ?_ (.of_noId (.at _) (nid_at _))
      have hb' : s.data[n.toNat]? = some b := by simpa using hb
      simp [execOp, ho, hv, hiv, Instr.index, asIntOf, Sem.run_bind, run_underlying (isStr_und hc.2), hc.1, ba_get, hb']
    · cases hr
  · rename_i cs n hx hi
    obtain ⟨k, hiv⟩ := int_opd (opd h i).rv hi
    split at hr
    · rename_i len e he
      split at hr
      · rename_i hc
        split at hr
        · rename_i sz g hsz hg
          have hop := opd h x
          rw [hx] at hop
          have hrv : R1 G.S G.E (.agg cs) (a.eval x) := hop.rv
          generalize hv : a.eval x = v at *
          cases hrv with
          | agg _ vs hl hpl hR =>
            obtain ⟨q1, q2, q3⟩ := part_opd hop hl hpl hR hr
            refine Yields.same h hd ?_ q3
            have := part_run (P := P) (w := w) vs hg hsz q1 q2
            simp [execOp, ho, hv, hiv, Instr.index, asIntOf, Sem.run_bind, run_underlying (tarr_und he), hc.1, hc.2, run_tsz hsz, this]
        · cases hr
      · cases hr
    · cases hr
  · cases hr

theorem q_nilEq (h : Inv E0 w0 Z G F a w) (hd : d < F.n) {o : Oper} {op : BinOp} {xt yt : TypeId} {x y : Operand} (ho : o.op = .binOp op xt x y yt) {r : AV} (hr : nilEq P op xt (F.ev x) (F.ev y) = some r) : Yields E0 w0 Z lab d G F a w P o r := by
  have key : ∀ rows nl own own', F.ev x = .slice rows nl own → F.ev y = .slice [] true own' → ∃ oa len cap, a.eval x = .slice oa len cap ∧ nl = oa.isNone ∧ a.eval y = .slice none 0 0 := by
    intro rows nl own own' hx hy
    have h1 := (opd h x).rv
    have h2 := (opd h y).rv
    rw [hx] at h1; rw [hy] at h2
    have h1 : R1 G.S G.E (.slice rows nl own) (a.eval x) := h1
    have h2 : R1 G.S G.E (.slice [] true own') (a.eval y) := h2
    generalize a.eval x = v at *
    generalize a.eval y = u at *
    cases h2
    cases h1
    · exact ⟨none, 0, 0, rfl, rfl, rfl⟩
    · exact ⟨_, _, _, rfl, rfl, rfl⟩
  have fin : ∀ e rows nl own own', tel P xt = some e → F.ev x = .slice rows nl own → F.ev y = .slice [] true own' → (op = .eql → Yields E0 w0 Z lab d G F a w P o (.at (.bool nl))) ∧ (op = .neq → Yields E0 w0 Z lab d G F a w P o (.at (.bool !nl))) := by
    intro e rows nl own own' he hx hy
    obtain ⟨oa, len, cap, e1, e2, e3⟩ := key rows nl own own' hx hy
    have heq : ∀ w : World, (Op.equal xt (.slice oa len cap) (.slice none 0 0)).run P w = .ok oa.isNone w := by
      intro w
      unfold Op.equal Op.maxDepth
      unfold Op.equalIn
      simp only [Sem.run_bind, run_underlying (tel_und he), Result.andThen_ok]
      cases oa <;> rfl
    constructor
    · rintro rfl
      refine Yields.same h hd (v := .bool nl) ?_ (.of_noId (.at _) (nid_at _))
      simp [execOp, ho, e1, e3, eqGuard, binOp, Sem.run_bind, heq, e2]
    · rintro rfl
      refine Yields.same h hd (v := .bool !nl) ?_ (.of_noId (.at _) (nid_at _))
      simp [execOp, ho, e1, e3, eqGuard, binOp, Sem.run_bind, heq, e2]
  have finh : ∀ e l off len cap sz own', tel P xt = some e → F.ev x = .hs l off len cap sz → F.ev y = .slice [] true own' → (op = .eql → Yields E0 w0 Z lab d G F a w P o (.at (.bool false))) ∧ (op = .neq → Yields E0 w0 Z lab d G F a w P o (.at (.bool true))) := by
    intro e l off len cap sz own' he hx hy
    have h1 := (opd h x).rv
    have h2 := (opd h y).rv
    rw [hx] at h1; rw [hy] at h2
    have h1 : R1 G.S G.E (.hs l off len cap sz) (a.eval x) := h1
    have h2 : R1 G.S G.E (.slice [] true own') (a.eval y) := h2
    generalize e1 : a.eval x = v at *
    generalize e2 : a.eval y = u at *
    cases h2
    cases h1 with
    | hs _ _ _ _ _ b hb =>
      have heq : ∀ w : World, (Op.equal xt (.slice (some ⟨b, off, none⟩) len cap) (.slice none 0 0)).run P w = .ok false w := by
        intro w
        unfold Op.equal Op.maxDepth
        unfold Op.equalIn
        simp only [Sem.run_bind, run_underlying (tel_und he), Result.andThen_ok]
        rfl
      constructor
      · rintro rfl
        refine Yields.same h hd (v := .bool false) ?_ (.of_noId (.at _) (nid_at _))
        simp [execOp, ho, e1, e2, eqGuard, binOp, Sem.run_bind, heq]
      · rintro rfl
        refine Yields.same h hd (v := .bool true) ?_ (.of_noId (.at _) (nid_at _))
        simp [execOp, ho, e1, e2, eqGuard, binOp, Sem.run_bind, heq]
  unfold nilEq at hr
  split at hr
  · rename_i e r' rs nl own own' he hx hy
    have := Option.some.inj hr; subst this
    exact (fin _ _ _ _ _ he hx hy).1 rfl
  · rename_i e r' rs nl own own' he hx hy
    have := Option.some.inj hr; subst this
    exact (fin _ _ _ _ _ he hx hy).2 rfl
  · rename_i e nl own own' he hx hy
    have := Option.some.inj hr; subst this
    exact (fin _ _ _ _ _ he hx hy).1 rfl
  · rename_i e nl own own' he hx hy
    have := Option.some.inj hr; subst this
    exact (fin _ _ _ _ _ he hx hy).2 rfl
  · rename_i e l off len cap sz own' he hx hy
    have := Option.some.inj hr; subst this
    exact (finh _ _ _ _ _ _ _ he hx hy).1 rfl
  · rename_i e l off len cap sz own' he hx hy
    have := Option.some.inj hr; subst this
    exact (finh _ _ _ _ _ _ _ he hx hy).2 rfl
  · cases hr

theorem bnd_val {dflt : Int} {x : Option Operand} {n : Int} (h : Inv E0 w0 Z G F a w) (hb : bnd dflt (x.map F.ev) = some n) : (x = none ∧ n = dflt) ∨ ∃ y k, x = some y ∧ a.eval y = .int k n := by
  cases x with
  | none => simp [bnd] at hb; exact .inl ⟨rfl, hb.symm⟩
  | some y =>
    simp only [Option.map_some, bnd] at hb
    obtain ⟨k, hk⟩ := int_opd (opd h y).rv hb
    exact .inr ⟨y, k, rfl, hk⟩

theorem q_slice (h : Inv E0 w0 Z G F a w) (hd : d < F.n) {o : Oper} {t : TypeId} {x : Operand} {lo hi mx : Option Operand} (ho : o.op = .slice t x lo hi mx) {r : AV} (hr : sliceA P t (F.ev x) (lo.map F.ev) (hi.map F.ev) (mx.map F.ev) = some r) : Yields E0 w0 Z lab d G F a w P o r := by
  unfold sliceA at hr
  split at hr
  · rename_i rows nl own hx
    split at hr
    · rename_i e l hh he hl hhi
      split at hr
      · cases hr
      · rename_i sz hsz
        split at hr
        · rename_i hc
          obtain ⟨hl0, hlh, hhr, hall⟩ := hc
          have hxr := (opd h x).rv
          rw [hx] at hxr
          have hxr : R1 G.S G.E (.slice rows nl own) (a.eval x) := hxr
          have hlv := bnd_val h hl
          have hhv := bnd_val h hhi
          have hu := tel_und he
          generalize hv : a.eval x = v at *
          have hrows : ∀ r ∈ rows, r.length = sz := fun r hr => by simpa using List.all_eq_true.1 hall r hr
          have hlen : ((rows.take hh.toNat).drop l.toNat).length = hh.toNat - l.toNat := by simp; omega
          -- the run
          have hrun : ∀ (oa : Option Addr) (cap : Nat) (m : Nat), v = .slice oa rows.length cap → rows.length ≤ cap → ((mx = none ∧ m = cap) ∨ (∃ q k, mx = some q ∧ a.eval q = .int k (m : Int) ∧ hi.isSome = true ∧ m ≤ cap)) → hh.toNat ≤ m →
              (execOp a.eval o).run P w = .ok (.value (.slice (if m = l.toNat then oa else oa.map (·.add (l.toNat * sz))) (hh.toNat - l.toNat) (m - l.toNat))) w := by
            intro oa cap m hva hcap hm hhm
            rcases hm with ⟨rfl, rfl⟩ | ⟨q, k, rfl, hq, hs, hmc⟩
            · rcases hlv with ⟨rfl, rfl⟩ | ⟨y, ky, rfl, hy⟩ <;> rcases hhv with ⟨rfl, rfl⟩ | ⟨z, kz, rfl, hz⟩
              · simp [execOp, ho, hv, hva, Instr.sliceAt, Instr.slice, Instr.sliceBounds, Sem.run_bind, run_underlying hu, run_tsz hsz]
              · have e1 : hh ≤ (m : Int) := by omega
                simp [execOp, ho, hv, hva, Instr.sliceAt, Instr.slice, Instr.sliceBounds, Instr.sliceBound, Sem.run_bind, run_underlying hu, run_tsz hsz, hz, asIntOf, hlh, e1]
              · have e1 : l ≤ (rows.length : Int) := by omega
                simp [execOp, ho, hv, hva, Instr.sliceAt, Instr.slice, Instr.sliceBounds, Instr.sliceBound, Sem.run_bind, run_underlying hu, run_tsz hsz, hy, asIntOf, hl0, e1]
              · have e1 : hh ≤ (m : Int) := by omega
                have e2 : 0 ≤ hh := by omega
                have e3 : l ≤ max hh 0 := by omega
                simp [execOp, ho, hv, hva, Instr.sliceAt, Instr.slice, Instr.sliceBounds, Instr.sliceBound, Sem.run_bind, run_underlying hu, run_tsz hsz, hy, hz, asIntOf, hl0, hlh, e1, e2, e3]
            · rcases hhv with ⟨rfl, rfl⟩ | ⟨z, kz, rfl, hz⟩
              · simp at hs
              · have e1 : hh ≤ (m : Int) := by omega
                have e2 : 0 ≤ hh := by omega
                have e3 : l ≤ max hh 0 := by omega
                have e4 : (m : Int) ≤ cap := by omega
                rcases hlv with ⟨rfl, rfl⟩ | ⟨y, ky, rfl, hy⟩
                · simp [execOp, ho, hv, hva, Instr.sliceAt, Instr.slice, Instr.sliceBounds, Instr.sliceBound, Sem.run_bind, run_underlying hu, run_tsz hsz, hz, hq, asIntOf, hlh, e1, e4, hmc]
                · simp [execOp, ho, hv, hva, Instr.sliceAt, Instr.slice, Instr.sliceBounds, Instr.sliceBound, Sem.run_bind, run_underlying hu, run_tsz hsz, hy, hz, hq, asIntOf, hl0, hlh, e1, e2, e3, e4, hmc]
          -- the result
          have hres : ∀ (own' : Own) (m : Nat), hh.toNat ≤ m → (∀ n, own' ≠ .id n) → (own' = .full → m = hh.toNat) → (∀ oa cap, v = .slice oa rows.length cap → (mx = none ∧ m = cap) ∨ (∃ q k, mx = some q ∧ a.eval q = .int k (m : Int) ∧ hi.isSome = true ∧ m ≤ cap)) →
              Yields E0 w0 Z lab d G F a w P o (.slice ((rows.take hh.toNat).drop l.toNat) nl own') := by
            intro own' m hhm hno hfl hm
            have hnid : NoId (.slice ((rows.take hh.toNat).drop l.toNat) nl own') := by
              rintro n ⟨y, hy, rows, nl, rfl⟩
              simp [parts] at hy
              exact hno n hy.2.2.symm
            cases hxr with
            | nil =>
              have hr0 := hrun none 0 m rfl (Nat.le_refl _) (hm none 0 rfl) hhm
              have hh0 : hh.toNat = 0 := by simp at hhr; omega
              have hm0 : m = 0 := by
                rcases hm none 0 rfl with ⟨_, h⟩ | ⟨_, _, _, _, _, h⟩ <;> omega
              have hl00 : l.toNat = 0 := by omega
              refine Yields.same h hd hr0 (.of_noId ?_ hnid)
              simp [hh0, hm0, hl00]
              exact .nil _
            | slice _ _ b off cap sz' val hlen' hsz' hfull hpl h1 h2 =>
              have hr0 := hrun (some ⟨b, off, none⟩) cap m rfl hlen' (hm _ _ rfl) hhm
              have hcell : ∀ i j, cellAt ((rows.take hh.toNat).drop l.toNat) i j = (if i < hh.toNat - l.toNat then cellAt rows (l.toNat + i) j else none) := by
                intro i j
                simp only [cellAt, List.getElem?_drop, List.getElem?_take]
                by_cases hi : i < hh.toNat - l.toNat
                · rw [if_pos (by omega), if_pos hi]
                · rw [if_neg (by omega), if_neg hi]; rfl
              have hm' : (if m = l.toNat then some (⟨b, off, none⟩ : Addr) else (some (⟨b, off, none⟩ : Addr)).map (·.add (l.toNat * sz))) = some ⟨b, if m = l.toNat then off else off + l.toNat * sz, none⟩ := by
                split
                · rfl
                · simp [add_none]
              rw [hm'] at hr0
              refine Yields.same h hd hr0 (.of_noId ?_ hnid)
              have hres := R1.slice (S := G.S) (E := G.E) ((rows.take hh.toNat).drop l.toNat) own' b (if m = l.toNat then off else off + l.toNat * sz) (m - l.toNat) sz (fun i j => val (l.toNat + i) j) (by rw [hlen]; omega)
                (fun r hr => hrows r (List.mem_of_mem_take (List.mem_of_mem_drop hr))) (fun hf => by rw [hlen, hfl hf])
                (fun i j x hx => by rw [hcell] at hx; split at hx <;> first | exact hpl _ _ _ hx | cases hx)
                (fun i j x hx => by
                  rw [hcell] at hx
                  split at hx
                  · rename_i hi
                    have := h1 _ _ _ hx
                    have hszeq : sz' = sz := by
                      have hlt : l.toNat + i < rows.length := by omega
                      rw [← hrows _ (List.getElem_mem hlt), ← hsz' _ (List.getElem_mem hlt)]
                    rw [if_neg (by omega)]
                    rw [hszeq, Nat.add_mul] at this
                    rw [show off + l.toNat * sz + (i * sz + j) = off + (l.toNat * sz + i * sz + j) by omega]
                    exact this
                  · cases hx)
                (fun i j x hx => by rw [hcell] at hx; split at hx <;> first | exact h2 _ _ _ hx | cases hx)
              rw [hlen] at hres
              exact hres
          split at hr
          · rename_i hmx
            have := Option.some.inj hr; subst this
            have hmx' : mx = none := by cases mx <;> simp_all
            obtain ⟨oa, cap, hva, hcap⟩ : ∃ oa cap, v = .slice oa rows.length cap ∧ rows.length ≤ cap := by
              cases hxr
              · exact ⟨none, 0, rfl, Nat.le_refl _⟩
              · exact ⟨_, _, rfl, ‹_›⟩
            refine hres .no cap (by omega) (by intro n h; cases h) (by intro h; cases h) (fun oa' cap' hva' => ?_)
            rw [hva] at hva'
            cases hva'
            exact .inl ⟨hmx', rfl⟩
          · rename_i mv hmx
            split at hr
            · rename_i hcond
              have := Option.some.inj hr; subst this
              cases mx with
              | none => cases hmx
              | some q =>
                have hmq : F.ev q = mv := Option.some.inj hmx
                obtain ⟨k, hk⟩ := int_opd (opd h q).rv (by rw [hmq]; exact hcond.1)
                refine hres .full hh.toNat (Nat.le_refl _) (by intro n h; cases h) (fun _ => rfl) (fun oa' cap' hva' => .inr ⟨q, k, rfl, by rw [hk]; congr 1; omega, by simpa using hcond.2, ?_⟩)
                obtain ⟨hcap⟩ : rows.length ≤ cap' ∨ False := by
                  rw [hva'] at hxr
                  cases hxr
                  · exact .inl (by simp)
                  · exact .inl ‹_›
                · omega
                · rename_i hF; exact hF.elim
            · cases hr
        · cases hr
    · cases hr
  · rename_i s hx
    split at hr
    · rename_i l hh hmx hst hl hhi
      split at hr
      · rename_i hc
        have := Option.some.inj hr; subst this
        obtain ⟨hl0, hlh, hhr⟩ := hc
        have hxr := (opd h x).rv
        rw [hx] at hxr
        have hxr : R1 G.S G.E (.at (.string s)) (a.eval x) := hxr
        have hlv := bnd_val h hl
        have hhv := bnd_val h hhi
        have hu := isStr_und hst
        have hmx' : mx = none := by cases mx <;> simp_all
        subst hmx'
        generalize hv : a.eval x = v at *
        cases hxr
        have hex : s.extract l.toNat hh.toNat = ⟨⟨(s.data.toList.drop l.toNat).take (hh.toNat - l.toNat)⟩⟩ := by
          have h1 : (s.extract l.toNat hh.toNat).data.toList = (s.data.toList.drop l.toNat).take (hh.toNat - l.toNat) := by simp
          cases hq : s.extract l.toNat hh.toNat with
          | mk dd => rw [hq] at h1; cases dd; simp at h1; rw [h1]
        refine Yields.same h hd (v := .string (s.extract l.toNat hh.toNat)) ?_ (by rw [hex]; exact .of_noId (.at _) (nid_at _))
        rcases hlv with ⟨rfl, rfl⟩ | ⟨y, ky, rfl, hy⟩ <;> rcases hhv with ⟨rfl, rfl⟩ | ⟨z, kz, rfl, hz⟩
        · simp [execOp, ho, hv, Instr.sliceAt, Instr.slice, Instr.sliceBounds, Sem.run_bind, run_underlying hu]
        · simp [execOp, ho, hv, Instr.sliceAt, Instr.slice, Instr.sliceBounds, Instr.sliceBound, Sem.run_bind, run_underlying hu, hz, asIntOf, hlh, hhr]
        · have e1 : l ≤ (s.size : Int) := by omega
          simp [execOp, ho, hv, Instr.sliceAt, Instr.slice, Instr.sliceBounds, Instr.sliceBound, Sem.run_bind, run_underlying hu, hy, asIntOf, hl0, e1]
        · have e2 : 0 ≤ hh := by omega
          have e3 : l ≤ max hh 0 := by omega
          simp [execOp, ho, hv, Instr.sliceAt, Instr.slice, Instr.sliceBounds, Instr.sliceBound, Sem.run_bind, run_underlying hu, hy, hz, asIntOf, hl0, hlh, hhr, e2, e3]
      · cases hr
    · cases hr
  · rename_i loc off len cap sz hx
    split at hr
    · rename_i e l hh he hl hhi hmx
      split at hr
      · rename_i hc
        have := Option.some.inj hr; subst this
        obtain ⟨hsz, hl0, hlh, hhr, hcap, hlc⟩ := hc
        have hxr := (opd h x).rv
        rw [hx] at hxr
        have hxr : R1 G.S G.E (.hs loc off len cap sz) (a.eval x) := hxr
        have hlv := bnd_val h hl
        have hhv := bnd_val h hhi
        have hu := tel_und he
        have hmx' : mx = none := by cases mx <;> simp_all
        subst hmx'
        generalize hv : a.eval x = v at *
        cases hxr with
        | hs _ _ _ _ _ b hb =>
          refine Yields.same h hd (v := .slice (some ⟨b, off + l.toNat * sz, none⟩) (hh.toNat - l.toNat) (cap - l.toNat)) ?_ (.of_noId (.hs _ _ _ _ _ _ hb) ?_)
          · have e0 : ¬ cap = l.toNat := by omega
            have e0' : ¬ cap = 0 := by omega
            rcases hlv with ⟨rfl, rfl⟩ | ⟨y, ky, rfl, hy⟩ <;> rcases hhv with ⟨rfl, rfl⟩ | ⟨z, kz, rfl, hz⟩
            · simp [execOp, ho, hv, Instr.sliceAt, Instr.slice, Instr.sliceBounds, Sem.run_bind, run_underlying hu, run_tsz hsz, e0', add_none]
            · have e1 : hh ≤ (cap : Int) := by omega
              simp [execOp, ho, hv, Instr.sliceAt, Instr.slice, Instr.sliceBounds, Instr.sliceBound, Sem.run_bind, run_underlying hu, run_tsz hsz, hz, asIntOf, hlh, e1, e0', add_none]
            · have e1 : l ≤ (len : Int) := by omega
              simp [execOp, ho, hv, Instr.sliceAt, Instr.slice, Instr.sliceBounds, Instr.sliceBound, Sem.run_bind, run_underlying hu, run_tsz hsz, hy, asIntOf, hl0, e1, e0, add_none]
            · have e1 : hh ≤ (cap : Int) := by omega
              have e2 : 0 ≤ hh := by omega
              have e3 : l ≤ max hh 0 := by omega
              simp [execOp, ho, hv, Instr.sliceAt, Instr.slice, Instr.sliceBounds, Instr.sliceBound, Sem.run_bind, run_underlying hu, run_tsz hsz, hy, hz, asIntOf, hl0, hlh, e1, e2, e3, e0, add_none]
          · rintro n ⟨y, hy, rows, nl, rfl⟩; simp [parts] at hy
      · cases hr
    · cases hr
  · cases hr
end
end Go.Proofs.V
namespace Go.Proofs.V
open Go Go.RowKit
set_option linter.unusedVariables false
set_option linter.unusedSimpArgs false
section
variable {E0 : Nat → Prop} {w0 : Ent} {Z : Nat → Prop} {G : Gh} {F : St} {a : Act} {w : World} {P : Program} {lab : Nat} {d : Nat}
theorem foldl_set (vs : List Value) : ∀ (k off : Nat) (cs : Array Value) (j : Nat), ((vs.zipIdx k).foldl (fun (cs : Array Value) (x : Value × Nat) => cs.setIfInBounds (off + x.2) x.1) cs)[j]? = if off + k ≤ j ∧ j < off + k + vs.length ∧ j < cs.size then vs[j - (off + k)]? else cs[j]? := by
  induction vs with
  | nil => intro k off cs j; simp; omega
  | cons v vs ih =>
    intro k off cs j
    simp only [List.zipIdx_cons, List.foldl_cons]
    rw [ih]
    simp only [Array.size_setIfInBounds, List.length_cons]
    by_cases h1 : j = off + k
    · subst h1
      rw [if_neg (by omega)]
      by_cases h2 : off + k < cs.size
      · rw [if_pos ⟨by omega, by omega, h2⟩]
        simp [h2]
      · rw [if_neg (by omega)]
        rw [Array.getElem?_eq_none (by simpa using h2), Array.getElem?_eq_none (by omega)]
    · by_cases h3 : off + (k + 1) ≤ j ∧ j < off + (k + 1) + vs.length ∧ j < cs.size
      · rw [if_pos h3, if_pos (by omega)]
        rw [show j - (off + k) = (j - (off + (k + 1))) + 1 by omega]
        simp
      · rw [if_neg h3, if_neg (by omega), Array.getElem?_setIfInBounds_ne (by omega)]
theorem foldl_size (vs : List Value) : ∀ (k off : Nat) (cs : Array Value), ((vs.zipIdx k).foldl (fun (cs : Array Value) (x : Value × Nat) => cs.setIfInBounds (off + x.2) x.1) cs).size = cs.size := by
  induction vs with
  | nil => intro k off cs; rfl
  | cons v vs ih => intro k off cs; simp only [List.zipIdx_cons, List.foldl_cons]; rw [ih]; simp

theorem fill_step (vc : Array Value) (off : Nat) (cells : Array Value) (j : Nat) (hfit : off + vc.size ≤ cells.size) : (vc.zipIdx.foldl (fun cs (c, j) => cs.setIfInBounds (off + j) c) cells)[j]? = if off ≤ j ∧ j < off + vc.size then vc[j - off]? else cells[j]? := by
  have h := foldl_set vc.toList 0 off cells j
  have e : vc.zipIdx.foldl (fun cs (c, j) => cs.setIfInBounds (off + j) c) cells = (vc.toList.zipIdx 0).foldl (fun (cs : Array Value) (x : Value × Nat) => cs.setIfInBounds (off + x.2) x.1) cells := by
    rw [← Array.foldl_toList, Array.toList_zipIdx]
  rw [e, h]
  simp only [Nat.add_zero, Array.length_toList, Array.getElem?_toList]
  by_cases h1 : off ≤ j ∧ j < off + vc.size
  · rw [if_pos ⟨h1.1, h1.2, by omega⟩, if_pos h1]
  · rw [if_neg (by omega), if_neg h1]
theorem fill_step_size (vc : Array Value) (off : Nat) (cells : Array Value) : (vc.zipIdx.foldl (fun cs (c, j) => cs.setIfInBounds (off + j) c) cells).size = cells.size := by
  have e : vc.zipIdx.foldl (fun cs (c, j) => cs.setIfInBounds (off + j) c) cells = (vc.toList.zipIdx 0).foldl (fun (cs : Array Value) (x : Value × Nat) => cs.setIfInBounds (off + x.2) x.1) cells := by
    rw [← Array.foldl_toList, Array.toList_zipIdx]
  rw [e, foldl_size]

theorem splice_get (row : List AV) (off : Nat) (cs : List AV) (h : off + cs.length ≤ row.length) (j : Nat) : (splice row off cs)[j]? = if off ≤ j ∧ j < off + cs.length then cs[j - off]? else row[j]? := by
  unfold splice
  by_cases h1 : j < off
  · rw [List.getElem?_append_left (by simp; omega), List.getElem?_append_left (by simp; omega), List.getElem?_take, if_pos h1, if_neg (by omega)]
  · by_cases h2 : j < off + cs.length
    · rw [List.getElem?_append_left (by simp; omega), List.getElem?_append_right (by simp; omega), if_pos ⟨by omega, h2⟩]
      congr 1; simp; omega
    · rw [List.getElem?_append_right (by simp; omega), if_neg (by omega), List.getElem?_drop]
      congr 1; simp; omega
theorem splice_len (row : List AV) (off : Nat) (cs : List AV) (h : off + cs.length ≤ row.length) : (splice row off cs).length = row.length := by
  unfold splice; simp; omega

/-- One part goes in. -/
theorem PW.splice {cs : List AV} {vs : Array Value} (h : PW G cs vs) {xs : List AV} {us : Array Value} (hx : PW G xs us) {off : Nat} (hfit : off + xs.length ≤ cs.length) :
    PW G (splice cs off xs) (us.zipIdx.foldl (fun cs (c, j) => cs.setIfInBounds (off + j) c) vs) := by
  refine ⟨by rw [fill_step_size, splice_len _ _ _ hfit]; exact h.1, ?_, ?_⟩
  · intro x hm
    obtain ⟨j, hj⟩ := List.getElem?_of_mem hm
    rw [splice_get _ _ _ hfit] at hj
    split at hj
    · exact hx.2.1 x (List.mem_of_getElem? hj)
    · exact h.2.1 x (List.mem_of_getElem? hj)
  · intro j x v hj hv
    rw [splice_get _ _ _ hfit] at hj
    rw [fill_step _ _ _ _ (by rw [hx.1, h.1]; exact hfit), hx.1] at hv
    split at hj
    · rename_i hc; rw [if_pos hc] at hv; exact hx.2.2 _ _ _ hj hv
    · rename_i hc; rw [if_neg hc] at hv; exact h.2.2 _ _ _ hj hv

theorem fill_R (h : Inv E0 w0 Z G F a w) {place place' : Nat → Option (Nat × Nat)} (hpl : ∀ i x, place i = some x → place' i = some x) : ∀ (ps : List (Nat × Operand)) (cs : List AV) (vs : Array Value) (r : List AV), PW G cs vs → fillA place cs (ps.map fun p => (p.1, F.ev p.2)) = some r →
    ∃ us, Instr.fill place' vs (ps.map fun p => (p.1, a.eval p.2)) = some us ∧ PW G r us
  | [], cs, vs, r, hp, hr => ⟨vs, rfl, by simp [fillA] at hr; subst hr; exact hp⟩
  | (i, x) :: ps, cs, vs, r, hp, hr => by
    simp only [List.map_cons, fillA] at hr
    split at hr
    · cases hr
    · rename_i off size hpi
      split at hr
      · rename_i hc
        simp only [Bool.and_eq_true, beq_iff_eq, decide_eq_true_eq] at hc
        obtain ⟨⟨hs, hlen⟩, hfit⟩ := hc
        have hxr := opd_R1 (opd h x) (storable_free hs)
        have hcells := cells_R1 hxr hs
        have hp' := hp.splice hcells.strip (off := off) (by simpa [hlen] using hfit)
        obtain ⟨us, h1, h2⟩ := fill_R h hpl ps _ _ r hp' hr
        refine ⟨us, ?_, h2⟩
        simp only [List.map_cons, Instr.fill, hpl _ _ hpi]
        rw [if_neg (by rw [hcells.1, hlen, hp.1]; simp; omega)]
        exact h1
      · cases hr

theorem fillA_noId {place : Nat → Option (Nat × Nat)} : ∀ (ps : List (Nat × AV)) (cs r : List AV), (∀ y ∈ cs, ∀ rows nl n, y ≠ .slice rows nl (.id n)) → fillA place cs ps = some r → ∀ y ∈ r, ∀ rows nl n, y ≠ .slice rows nl (.id n)
  | [], cs, r, h, hr => by simp [fillA] at hr; subst hr; exact h
  | (i, x) :: ps, cs, r, h, hr => by
    simp only [fillA] at hr
    split at hr
    · cases hr
    · rename_i off size hpi
      split at hr
      · rename_i hc
        simp only [Bool.and_eq_true, beq_iff_eq, decide_eq_true_eq] at hc
        refine fillA_noId ps _ r (fun y hy => ?_) hr
        unfold splice at hy
        simp only [List.mem_append] at hy
        rcases hy with (hy | hy) | hy
        · exact h y (List.mem_of_mem_take hy)
        · obtain ⟨u, _, rfl⟩ := List.mem_map.1 hy
          exact noId_strip1 u
        · exact h y (List.mem_of_mem_drop hy)
      · cases hr

theorem tzero_noId {e : TypeId} {cs : List AV} (hc : tzero P e = some cs) : ∀ y ∈ cs, ∀ rows nl n, y ≠ .slice rows nl (.id n) := by
  obtain ⟨i, z, h1, h2, rfl, hp, hl⟩ := tzero_info hc
  intro y hy rows nl n he
  subst he
  unfold AV.cells at hy
  split at hy
  · rename_i cs hcs
    exact noId_absV z n ⟨_, by rw [hcs]; exact hy, rows, nl, rfl⟩
  · rename_i hna
    simp at hy
    exact noId_absV z n ⟨.slice rows nl (.id n), by rw [← hy]; simp [parts], rows, nl, rfl⟩

theorem run_places {fs : Array Field} (hall : fs.toList.all (fun f => (P.info? f.type).isSome) = true) (w : World) : (fs.mapM (fun (f : Field) => (do pure (f.offset, ← sizeOf f.type) : Sem (Nat × Nat)))).run P w = .ok (fs.map fun f => (f.offset, P.cellsOf f.type)) w := by
  rw [Array.mapM_eq_mapM_toList]
  have key : ∀ l : List Field, l.all (fun f => (P.info? f.type).isSome) = true → (l.mapM (fun (f : Field) => (do pure (f.offset, ← sizeOf f.type) : Sem (Nat × Nat)))).run P w = .ok (l.map fun f => (f.offset, P.cellsOf f.type)) w := by
    intro l
    induction l with
    | nil => intro _; simp
    | cons f l ih =>
      intro h
      simp only [List.all_cons, Bool.and_eq_true] at h
      obtain ⟨i, hi⟩ := Option.isSome_iff_exists.1 h.1
      simp only [List.mapM_cons, Sem.run_bind, run_sizeOf _ hi, Result.andThen_ok, Sem.run_pure, ih h.2, List.map_cons]
  simp only [Sem.run_map, key _ hall, Result.andThen_ok]
  congr 1
  apply Array.ext'
  simp

theorem q_build (h : Inv E0 w0 Z G F a w) (hd : d < F.n) {o : Oper} {t : TypeId} {ps : Array (Nat × Operand)} (ho : o.op = .build t ps) {cs r : List AV} {place : Nat → Option (Nat × Nat)} (hz : tzero P t = some cs) (hb : buildPlace P t = some place)
    (hr : fillA place cs (ps.toList.map fun p => (p.1, F.ev p.2)) = some r) : Yields E0 w0 Z lab d G F a w P o (.agg r) := by
  obtain ⟨i, z, h1, h2, rfl, hp, hl⟩ := tzero_info hz
  have hPW : PW G (absV z).cells z.cells := ⟨hl.symm, hp, absV_cells G z hp⟩
  have hni : NoId (.agg r) := by
    rintro n ⟨y, hy, rows, nl, rfl⟩
    exact fillA_noId _ _ _ (tzero_noId hz) hr _ hy rows nl n rfl
  have hfin : ∀ us : Array Value, PW G r us → R1 G.S G.E (.agg r) (.agg us) := fun us hu => by
    have : us = us.toList.toArray := by simp
    rw [this]
    exact .agg r us.toList (by simpa using hu.1) hu.2.1 (fun j x v hx hv => hu.2.2 j x v hx (by simpa using hv))
  have hmap : (ps.map fun x : Nat × Operand => (x.1, a.eval x.2)).toList = ps.toList.map fun p => (p.1, a.eval p.2) := by simp
  unfold buildPlace at hb
  split at hb
  · rename_i fs hu
    split at hb
    · rename_i hall
      have := Option.some.inj hb; subst this
      obtain ⟨us, e1, e2⟩ := fill_R h (place' := fun i => (fs.map fun f => (f.offset, P.cellsOf f.type))[i]?) (fun i x hx => by simpa using hx) ps.toList _ _ r hPW hr
      refine Yields.same h hd (v := .agg us) ?_ (.of_noId (hfin us e2) hni)
      have hrun := run_places (P := P) hall w
      simp only [execOp, ho, Instr.build, Sem.run_bind, run_zero h1 h2, Result.andThen_ok, run_underlying hu, hrun]
      have e1' : Instr.fill (fun x => (fs.map fun f => (f.offset, P.cellsOf f.type))[x]?) z.cells (ps.map fun x : Nat × Operand => (x.1, a.eval x.2)).toList = some us := by rw [hmap]; exact e1
      simp [e1']
      simp at e1'
      simp [e1']
    · cases hb
  · rename_i n e hu
    simp only [Option.map_eq_some_iff] at hb
    obtain ⟨s, hs, rfl⟩ := hb
    obtain ⟨us, e1, e2⟩ := fill_R h (place' := fun i => some (i * s, s)) (fun i x hx => hx) ps.toList _ _ r hPW hr
    refine Yields.same h hd (v := .agg us) ?_ (.of_noId (hfin us e2) hni)
    have e1' : Instr.fill (fun i => some (i * s, s)) z.cells (ps.map fun x : Nat × Operand => (x.1, a.eval x.2)).toList = some us := by rw [hmap]; exact e1
    simp only [execOp, ho, Instr.build, Sem.run_bind, run_zero h1 h2, Result.andThen_ok, run_underlying hu, run_tsz hs]
    simp [e1']
    simp at e1'
    simp [e1']
  · cases hb
end
end Go.Proofs.V
namespace Go.Proofs.V
open Go Go.RowKit
set_option linter.unusedVariables false
set_option linter.unusedSimpArgs false
section
variable {E0 : Nat → Prop} {w0 : Ent} {Z : Nat → Prop} {G : Gh} {F : St} {a : Act} {w : World} {P : Program} {lab : Nat} {d : Nat}
/-- Rows against cells that lie one behind the other. -/
def RW (G : Gh) (sz : Nat) (rows : List (List AV)) (vs : Array Value) : Prop :=
  vs.size = rows.length * sz ∧ (∀ r ∈ rows, r.length = sz) ∧ (∀ i j x, cellAt rows i j = some x → x.plain = true) ∧ ∀ i j x, cellAt rows i j = some x → ∃ v, vs[i * sz + j]? = some v ∧ R1 G.S G.E x v

theorem cellAt_lt {rows : List (List AV)} {sz i j : Nat} {x : AV} (h : cellAt rows i j = some x) (hsz : ∀ r ∈ rows, r.length = sz) : i < rows.length ∧ j < sz := by
  unfold cellAt at h
  obtain ⟨r, h1, h2⟩ := Option.bind_eq_some_iff.1 h
  exact ⟨(List.getElem?_eq_some_iff.1 h1).1, by rw [← hsz r (List.mem_of_getElem? h1)]; exact (List.getElem?_eq_some_iff.1 h2).1⟩

theorem idx_apart {sz i i' j : Nat} (hj : j < sz) (h : ¬ i' = i) : ¬ (i * sz ≤ i' * sz + j ∧ i' * sz + j < i * sz + sz) := by
  rintro ⟨h1, h2⟩
  rcases Nat.lt_or_gt_of_ne h with h | h
  · have : (i' + 1) * sz ≤ i * sz := Nat.mul_le_mul_right _ h
    rw [Nat.add_mul] at this; omega
  · have : (i + 1) * sz ≤ i' * sz := Nat.mul_le_mul_right _ h
    rw [Nat.add_mul] at this; omega

theorem RW.set {sz : Nat} {rows : List (List AV)} {vs : Array Value} (h : RW G sz rows vs) {xs : List AV} {us : Array Value} (hx : PW G xs us) (hl : xs.length = sz) {i : Nat} (hi : i < rows.length) :
    RW G sz (rows.set i xs) (us.zipIdx.foldl (fun cs (c, j) => cs.setIfInBounds (i * sz + j) c) vs) := by
  have hfit : i * sz + us.size ≤ vs.size := by
    rw [hx.1, hl, h.1]
    have : (i + 1) * sz ≤ rows.length * sz := Nat.mul_le_mul_right _ hi
    rw [Nat.add_mul] at this; omega
  have hall : ∀ r ∈ rows.set i xs, r.length = sz := by
    intro r hr
    rcases List.mem_or_eq_of_mem_set hr with hr | hr
    · exact h.2.1 r hr
    · rw [hr]; exact hl
  have hcell : ∀ i' j, cellAt (rows.set i xs) i' j = if i' = i then xs[j]? else cellAt rows i' j := by
    intro i' j
    unfold cellAt
    by_cases h1 : i' = i
    · subst h1; simp [hi]
    · rw [if_neg h1, List.getElem?_set_ne (Ne.symm h1)]
  refine ⟨by rw [fill_step_size]; simpa using h.1, hall, ?_, ?_⟩
  · intro i' j x hxx
    rw [hcell] at hxx
    split at hxx
    · exact hx.2.1 x (List.mem_of_getElem? hxx)
    · exact h.2.2.1 _ _ _ hxx
  · intro i' j x hxx
    have hlt := cellAt_lt hxx hall
    rw [hcell] at hxx
    rw [fill_step _ _ _ _ hfit, hx.1, hl]
    split at hxx
    · rename_i h1
      subst h1
      rw [if_pos ⟨by omega, by omega⟩]
      obtain ⟨v, e1, e2⟩ := hx.val hxx
      exact ⟨v, by rw [show i' * sz + j - i' * sz = j by omega]; exact e1, e2⟩
    · rename_i h1
      rw [if_neg (idx_apart hlt.2 h1)]
      exact h.2.2.2 _ _ _ hxx

theorem fillRows_R (h : Inv E0 w0 Z G F a w) {sz : Nat} : ∀ (ps : List (Nat × Operand)) (rows : List (List AV)) (vs : Array Value) (r : List (List AV)), RW G sz rows vs → fillRows sz rows (ps.map fun p => (p.1, F.ev p.2)) = some r →
    ∃ us, Instr.fill (fun i => some (i * sz, sz)) vs (ps.map fun p => (p.1, a.eval p.2)) = some us ∧ RW G sz r us ∧ r.length = rows.length
  | [], rows, vs, r, hp, hr => ⟨vs, rfl, by simp [fillRows] at hr; subst hr; exact ⟨hp, rfl⟩⟩
  | (i, x) :: ps, rows, vs, r, hp, hr => by
    simp only [List.map_cons, fillRows] at hr
    split at hr
    · rename_i hc
      simp only [Bool.and_eq_true, beq_iff_eq, decide_eq_true_eq] at hc
      obtain ⟨⟨hs, hlen⟩, hi⟩ := hc
      have hxr := opd_R1 (opd h x) (storable_free hs)
      have hcells := cells_R1 hxr hs
      have hp' := hp.set hcells.strip (by simpa using hlen) hi
      obtain ⟨us, h1, h2, h3⟩ := fillRows_R h ps _ _ r hp' hr
      refine ⟨us, ?_, h2, by simpa using h3⟩
      have hfit : i * sz + sz ≤ vs.size := by
        rw [hp.1]
        have : (i + 1) * sz ≤ rows.length * sz := Nat.mul_le_mul_right _ hi
        rw [Nat.add_mul] at this; omega
      simp only [List.map_cons, Instr.fill]
      rw [if_neg (by rw [hcells.1, hlen]; simp; omega)]
      exact h1
    · cases hr

/-- A new row that holds rows. -/
theorem RW.slice {sz : Nat} {rows : List (List AV)} {vs : Array Value} (h : RW G sz rows vs) (b : Nat) (hS : ∀ ad v, G.S ad = some v → (G.addRow b vs).S ad = some v) (own : Own) (cap : Nat) (hcap : rows.length ≤ cap) (hfull : own = .full → cap = rows.length) :
    R1 (G.addRow b vs).S G.E (.slice rows false own) (.slice (some ⟨b, 0, none⟩) rows.length cap) :=
  .slice rows own b 0 cap sz (fun i j => vs.getD (i * sz + j) Go.undef) hcap h.2.1 hfull h.2.2.1
    (fun i j x hx => by
      obtain ⟨v, e1, e2⟩ := h.2.2.2 i j x hx
      have hlt : i * sz + j < vs.size := (Array.getElem?_eq_some_iff.1 e1).1
      simp [Gh.addRow, Array.getD, hlt])
    (fun i j x hx => by
      obtain ⟨v, e1, e2⟩ := h.2.2.2 i j x hx
      have hlt : i * sz + j < vs.size := (Array.getElem?_eq_some_iff.1 e1).1
      have : vs.getD (i * sz + j) Go.undef = v := by
        rw [Array.getElem?_eq_getElem hlt] at e1
        simp [Array.getD, hlt]; exact Option.some.inj e1
      rw [this]
      exact R1.mono hS (fun l b h => h) e2)

theorem replicate_RW {zv : Value} {sz : Nat} (hp : ∀ x ∈ (absV zv).cells, AV.plain x = true) (hl : (absV zv).cells.length = zv.cells.size) (hzl : (absV zv).cells.length = sz) (hne : sz ≠ 0) (len : Nat) :
    RW G sz (List.replicate len (absV zv).cells) ((Array.range (len * sz)).map ((if len * sz = 0 then #[] else zv.cells)[· % (if len * sz = 0 then #[] else zv.cells).size]!)) := by
  have hzs : zv.cells.size = sz := by rw [← hl, hzl]
  have hPW : PW G (absV zv).cells zv.cells := ⟨hl.symm, hp, absV_cells G zv hp⟩
  let z0 : Array Value := if len * sz = 0 then #[] else zv.cells
  let flat : Array Value := (Array.range (len * sz)).map (z0[· % z0.size]!)
  have h0 : RW G sz (List.replicate len (absV zv).cells) flat := by
    refine ⟨by simp [flat], ?_, ?_, ?_⟩
    · intro r hr; exact (congrArg List.length (List.eq_of_mem_replicate hr)).trans hzl
    · intro i j x hx
      unfold cellAt at hx
      obtain ⟨r, e1, e2⟩ := Option.bind_eq_some_iff.1 hx
      have := List.eq_of_mem_replicate (List.mem_of_getElem? e1)
      subst this
      exact hp x (List.mem_of_getElem? e2)
    · intro i j x hx
      have hlt := cellAt_lt (sz := sz) hx (fun r hr => (congrArg List.length (List.eq_of_mem_replicate hr)).trans hzl)
      unfold cellAt at hx
      obtain ⟨r, e1, e2⟩ := Option.bind_eq_some_iff.1 hx
      have := List.eq_of_mem_replicate (List.mem_of_getElem? e1)
      subst this
      obtain ⟨v, e3, e4⟩ := hPW.val e2
      have hi : i < len := by simpa using hlt.1
      have hidx : i * sz + j < len * sz := by
        have : (i + 1) * sz ≤ len * sz := Nat.mul_le_mul_right _ hi
        rw [Nat.add_mul] at this; omega
      refine ⟨v, ?_, e4⟩
      have hz0 : z0 = zv.cells := by simp only [z0]; rw [if_neg (by omega)]
      have hmod : (i * sz + j) % sz = j := by rw [Nat.mul_comm, Nat.mul_add_mod, Nat.mod_eq_of_lt hlt.2]
      simp only [flat, Array.getElem?_map, hz0, hzs]
      rw [Array.getElem?_eq_getElem (by simpa using hidx)]
      simp only [Array.getElem_range, Option.map_some, hmod]
      have hj : j < zv.cells.size := by rw [hzs]; exact hlt.2
      rw [getElem!_pos zv.cells j hj]
      rw [Array.getElem?_eq_getElem hj] at e3
      exact e3
  exact h0
theorem buildSlice_run (h : Inv E0 w0 Z G F a w) {o : Oper} {t e : TypeId} {len : Nat} {ps : Array (Nat × Operand)} (ho : o.op = .buildSlice t len ps) (he : tel P t = some e) {z : List AV} {sz : Nat} (hze : tzero P e = some z) (hsz : tsz P e = some sz)
    (hc : z.length = sz ∧ len * sz ≤ 16777216 ∧ sz ≠ 0) {rows : List (List AV)} (hr : fillRows sz (List.replicate len z) (ps.toList.map fun p => (p.1, F.ev p.2)) = some rows) : ∃ us ty, (execOp a.eval o).run P w = .ok (.value (.slice (some ⟨w.heap.size, 0, none⟩) rows.length rows.length)) (w.alloc (.cells us ty)) ∧ RW G sz rows us := by
  obtain ⟨i, zv, h1, h2, rfl, hp, hl⟩ := tzero_info hze
  obtain ⟨hzl, hbig, hne⟩ := hc
  have hzs : zv.cells.size = sz := by rw [← hl, hzl]
  have hPW : PW G (absV zv).cells zv.cells := ⟨hl.symm, hp, absV_cells G zv hp⟩
  let z0 : Array Value := if len * sz = 0 then #[] else zv.cells
  let flat : Array Value := (Array.range (len * sz)).map (z0[· % z0.size]!)
  have h0 : RW G sz (List.replicate len (absV zv).cells) flat := replicate_RW hp hl hzl hne len
  obtain ⟨us, e1, e2, e3⟩ := fillRows_R h ps.toList _ _ rows h0 hr
  have hlen : rows.length = len := by simpa using e3
  have hmap : (ps.map fun x : Nat × Operand => (x.1, a.eval x.2)).toList = ps.toList.map fun p => (p.1, a.eval p.2) := by simp
  have hrun : (execOp a.eval o).run P w = .ok (.value (.slice (some ⟨w.heap.size, 0, none⟩) rows.length rows.length)) (w.alloc (.cells us e)) := by
    have hnb : ¬ (len * sz > 2 ^ 24) := by omega
    have e1' : Instr.fill (fun i => some (i * sz, sz)) flat (ps.map fun x : Nat × Operand => (x.1, a.eval x.2)).toList = some us := by rw [hmap]; exact e1
    simp only [execOp, ho, Instr.buildSlice, Sem.run_bind, run_underlying (tel_und he), Result.andThen_ok, run_tsz hsz]
    rw [if_neg hnb]
    by_cases h00 : len * sz = 0
    · have hz0 : z0 = #[] := by simp only [z0]; rw [if_pos h00]
      simp only [flat, hz0] at e1'
      simp only [h00, if_true, Sem.run_bind, Sem.run_pure, Result.andThen_ok]
      rw [h00] at e1'
      simp only [e1']
      simp [newRow, hlen]
    · have hz0 : z0 = zv.cells := by simp only [z0]; rw [if_neg h00]
      simp only [flat, hz0] at e1'
      simp only [h00, if_false, Sem.run_bind, run_zero h1 h2, Sem.run_pure, Result.andThen_ok]
      simp only [e1']
      simp [newRow, hlen]
  exact ⟨us, e, hrun, e2⟩
theorem q_buildSlice (h : Inv E0 w0 Z G F a w) (hz : ∀ n, Z1 lab n → ¬ Z n) (hd : d < F.n) {o : Oper} {t e : TypeId} {len : Nat} {ps : Array (Nat × Operand)} (ho : o.op = .buildSlice t len ps) (he : tel P t = some e) {z : List AV} {sz : Nat} (hze : tzero P e = some z) (hsz : tsz P e = some sz)
    (hc : z.length = sz ∧ len * sz ≤ 16777216 ∧ sz ≠ 0) {rows : List (List AV)} (hr : fillRows sz (List.replicate len z) (ps.toList.map fun p => (p.1, F.ev p.2)) = some rows) : Yields E0 w0 Z lab d G F a w P o (.slice rows false .full) := by
  obtain ⟨us, e', hrun, e2⟩ := buildSlice_run (P := P) h ho he hze hsz hc hr
  refine Yields.row h hz hd hrun (e2.slice w.heap.size (grow_row (lab := lab) h us e').S .full rows.length (Nat.le_refl _) (fun _ => rfl)) ?_
  rintro n ⟨y, hy, rows, nl, rfl⟩
  simp [parts] at hy

theorem makeSlice_run (h : Inv E0 w0 Z G F a w) {o : Oper} {t e : TypeId} {x y : Operand} (ho : o.op = .makeSlice t x y) (he : tel P t = some e) {n : Int} (hx : intOfA (F.ev x) = some n) (hy : intOfA (F.ev y) = some n) {z : List AV} {sz by_ : Nat} (hze : tzero P e = some z) (hsz : tsz P e = some sz) (hby : tby P e = some by_)
    (h0 : 0 ≤ n) (h1 : n ≤ 35184372088832) (h2 : n.toNat * by_ ≤ 35184372088832) (hzl : z.length = sz) (hne : sz ≠ 0) :
    ∃ us ty, (execOp a.eval o).run P w = .ok (.value (.slice (some ⟨w.heap.size, 0, none⟩) (List.replicate n.toNat z).length (List.replicate n.toNat z).length)) (w.alloc (.cells us ty)) ∧ RW G sz (List.replicate n.toNat z) us := by
  obtain ⟨i, zv, q1, q2, rfl, hp, hl⟩ := tzero_info hze
  obtain ⟨k, hk⟩ := int_opd (opd h x).rv hx
  obtain ⟨k', hk'⟩ := int_opd (opd h y).rv hy
  refine ⟨_, e, ?_, replicate_RW hp hl hzl hne n.toNat⟩
  have hwrap : IntKind.i64.wrap n = n := by
    have hb : (IntKind.i64.bits : Nat) = 64 := rfl
    have hsg : IntKind.i64.signed = true := rfl
    simp only [IntKind.wrap, hb, hsg]
    have e1 : n % (2 ^ 64 : Int) = n := Int.emod_eq_of_lt h0 (by omega)
    rw [e1, if_neg]
    simp only [Bool.true_and, ge_iff_le, decide_eq_true_eq]
    omega
  obtain ⟨i', hi', hib⟩ : ∃ i', P.info? e = some i' ∧ i'.bytes = by_ := by unfold tby at hby; simpa [Option.map_eq_some_iff] using hby
  rw [q1] at hi'
  have := Option.some.inj hi'; subst this
  have hti : ∀ w : World, (typeInfo e).run P w = .ok i w := fun w => by simp [typeInfo, Sem.run_bind, q1]
  have hbig : ((i.bytes : Int) * n > 2 ^ 48) = False := by
    rw [hib]
    have e2 : ((by_ : Int) * n) = ((n.toNat * by_ : Nat) : Int) := by
      rw [Int.natCast_mul, Int.toNat_of_nonneg h0, Int.mul_comm]
    rw [e2]
    simp only [eq_iff_iff, iff_false, gt_iff_lt, Int.not_lt]
    omega
  have hneg : (n < 0) = False := by simp only [eq_iff_iff, iff_false]; omega
  simp only [execOp, ho, Instr.makeSlice, Sem.run_bind, run_underlying (tel_und he), Result.andThen_ok, hk, hk', asInt, asIntOf, Sem.run_pure, hti, hwrap]
  simp only [hbig, hneg, decide_false, Bool.or_false, Int.lt_irrefl, gt_iff_lt, Bool.false_eq_true, if_false, Sem.run_bind, run_askRoom, Result.andThen_ok, run_tsz hsz]
  by_cases h00 : n.toNat * sz = 0
  · simp [h00, Sem.run_bind, newRow, List.length_replicate]
  · simp [h00, Sem.run_bind, run_zero q1 q2, newRow, List.length_replicate]
theorem q_makeSlice (h : Inv E0 w0 Z G F a w) (hz : ∀ n, Z1 lab n → ¬ Z n) (hd : d < F.n) {o : Oper} {t e : TypeId} {x y : Operand} (ho : o.op = .makeSlice t x y) (he : tel P t = some e) {n : Int} (hx : intOfA (F.ev x) = some n) (hy : intOfA (F.ev y) = some n) {z : List AV} {sz by_ : Nat} (hze : tzero P e = some z) (hsz : tsz P e = some sz) (hby : tby P e = some by_)
    (h0 : 0 ≤ n) (h1 : n ≤ 35184372088832) (h2 : n.toNat * by_ ≤ 35184372088832) (hzl : z.length = sz) (hne : sz ≠ 0) : Yields E0 w0 Z lab d G F a w P o (.slice (List.replicate n.toNat z) false .full) := by
  obtain ⟨us, e', hrun, e2⟩ := makeSlice_run (P := P) h ho he hx hy hze hsz hby h0 h1 h2 hzl hne
  refine Yields.row h hz hd hrun (e2.slice w.heap.size (grow_row (lab := lab) h us e').S .full _ (Nat.le_refl _) (fun _ => rfl)) ?_
  rintro n ⟨y, hy, rows, nl, rfl⟩
  simp [parts] at hy

theorem bytesOf_cells {rows : List (List AV)} {bs : List UInt8} (h : bytesOf rows = some bs) : ∃ ns : List Int, rows = ns.map (fun n => [AV.at (.int .u8 n)]) ∧ bs = ns.map fun n => UInt8.ofNat n.toNat := by
  induction rows generalizing bs with
  | nil => simp [bytesOf] at h; subst h; exact ⟨[], rfl, rfl⟩
  | cons r rows ih =>
    unfold bytesOf at h
    split at h
    · rename_i e; cases e
    · rename_i n rest e
      cases e
      simp only [Option.map_eq_some_iff] at h
      obtain ⟨bs', h1, rfl⟩ := h
      obtain ⟨ns, e1, e2⟩ := ih h1
      exact ⟨n :: ns, by simp [e1], by simp [e2]⟩
    · cases h
theorem foldl_push (ns : List Int) : ∀ l : List UInt8, ns.foldl (fun (r : ByteArray) n => r.push (UInt8.ofNat n.toNat)) ⟨⟨l⟩⟩ = ⟨⟨l ++ ns.map fun n => UInt8.ofNat n.toNat⟩⟩ := by
  induction ns with
  | nil => intro l; simp
  | cons n ns ih =>
    intro l
    simp only [List.foldl_cons]
    have : (⟨⟨l⟩⟩ : ByteArray).push (UInt8.ofNat n.toNat) = ⟨⟨l ++ [UInt8.ofNat n.toNat]⟩⟩ := by simp [ByteArray.push]
    rw [this, ih]
    simp
theorem q_bytesStr (h : Inv E0 w0 Z G F a w) (hd : d < F.n) {o : Oper} {s t e : TypeId} {x : Operand} (ho : o.op = .convert s t x) (he : tel P s = some e) (hst : isStr P t = true) (hu8 : isU8 P e = true) {rows : List (List AV)} {nl : Bool} {own : Own} (hx : F.ev x = .slice rows nl own) {bs : List UInt8} (hb : bytesOf rows = some bs) :
    Yields E0 w0 Z lab d G F a w P o (.at (.string ⟨⟨bs⟩⟩)) := by
  have hxr := (opd h x).rv
  rw [hx] at hxr
  have hxr : R1 G.S G.E (.slice rows nl own) (a.eval x) := hxr
  refine Yields.same h hd (v := .string ⟨⟨bs⟩⟩) ?_ (.of_noId (.at _) (nid_at _))
  generalize hv : a.eval x = v at *
  obtain ⟨ns, e1, e2⟩ := bytesOf_cells hb
  cases hxr with
  | nil =>
    have : bs = [] := by simpa [bytesOf] using hb.symm
    subst this
    simp only [execOp, ho, hv, Sem.run_bind, run_convert_bytes_string w s t e none 0 0 (tel_und he) (isU8_und hu8) (isStr_und hst), Conv.bytesToString, Sem.run_pure, Result.andThen_ok]
    rfl
  | slice _ _ b off cap sz val hlen hsz hfull hpl h1 h2 =>
    subst e1
    have hload : (loadCells ⟨b, off, none⟩ (ns.map fun n => [AV.at (.int .u8 n)]).length).run P w = .ok (ns.map (Value.int .u8)).toArray w := by
      have := run_loadCells_list (P := P) w ⟨b, off, none⟩ (ns.map (Value.int .u8)) (fun j v hv => by
        rw [List.getElem?_map] at hv
        simp only [Option.map_eq_some_iff] at hv
        obtain ⟨n, hn, rfl⟩ := hv
        have hc : cellAt (ns.map fun n => [AV.at (.int .u8 n)]) j 0 = some (.at (.int .u8 n)) := by simp [cellAt, hn]
        have hsz1 : sz = 1 := by
          have := hsz [AV.at (.int .u8 n)] (List.mem_map.2 ⟨n, List.mem_of_getElem? hn, rfl⟩)
          simpa using this.symm
        have h3 := h.mem _ _ (h1 j 0 _ hc)
        have h4 := h2 j 0 _ hc
        subst hsz1
        rw [add_none]
        generalize hval : val j 0 = u at *
        cases h4
        simpa using h3)
      simpa using this
    have := run_bytesToString (P := P) w ⟨b, off, none⟩ (ns.map fun n => [AV.at (.int .u8 n)]).length cap ns hload
    simp only [execOp, ho, hv, Sem.run_bind, run_convert_bytes_string w s t e _ _ _ (tel_und he) (isU8_und hu8) (isStr_und hst), this, Result.andThen_ok, Sem.run_pure]
    rw [show ByteArray.empty = ⟨⟨[]⟩⟩ from rfl, foldl_push]
    simp [e2]
end
end Go.Proofs.V
namespace Go.Proofs.V
open Go Go.RowKit
set_option linter.unusedVariables false
set_option linter.unusedSimpArgs false
section
variable {E0 : Nat → Prop} {w0 : Ent} {Z : Nat → Prop} {G : Gh} {F : St} {a : Act} {w : World} {P : Program} {lab : Nat} {d : Nat}
theorem grow_new (h : Inv E0 w0 Z G F a w) (vs : Array Value) {w' : World} (hsz : w'.heap.size = w.heap.size + 1) (hold : ∀ b, b < w.heap.size → w'.heap[b]? = w.heap[b]?) (hnew : ∀ o v, vs[o]? = some v → w'.cell? ⟨w.heap.size, o, none⟩ = some v)
    (hos : w'.os = w.os) (ht : w'.tape = w.tape) (hou : w'.output = w.output) : Grow (Z1 lab) G (G.addRow w.heap.size vs) w w' where
  S ad v hv := by
    have := h.mem.lt hv
    simp only [Gh.addRow]
    rw [if_neg (by rintro ⟨h1, _⟩; omega)]
    exact hv
  Snew ad hn hb := by
    simp only [Gh.addRow]
    rw [if_neg (by rintro ⟨h1, _⟩; omega)]
    exact hn
  mem ad v hv := by
    simp only [Gh.addRow] at hv
    split at hv
    · rename_i hb
      obtain ⟨b, o, s⟩ := ad
      obtain ⟨rfl, rfl⟩ := hb
      exact hnew o v hv
    · have := h.mem.lt hv
      rw [World.cell?_of_block (w := w) (hold _ this)]
      exact h.mem ad v hv
  B g b hb := hb
  Bnew g b h1 h2 := by rw [show (G.addRow w.heap.size vs).B g = G.B g from rfl, h1] at h2; cases h2
  E := rfl
  u b hb := rfl
  ulive b hb := by have := h.live b hb; omega
  ρ n hn := rfl
  heap := hold
  size := by omega
  os := hos
  tape := ht
  output := hou
theorem Yields.new (h : Inv E0 w0 Z G F a w) (hz : ∀ n, Z1 lab n → ¬ Z n) {d : Nat} (hd : d < F.n) {o : Oper} {x : AV} {v : Value} {vs : Array Value} {w' : World} (hrun : (execOp a.eval o).run P w = .ok (.value v) w') (hg : Grow (Z1 lab) G (G.addRow w.heap.size vs) w w')
    (hx : R1 (G.addRow w.heap.size vs).S G.E x v) (hn : NoId x) : Yields E0 w0 Z lab d G F a w P o x := by
  refine ⟨v, _, G.addRow w.heap.size vs, hrun, ?_⟩
  have h1 := h.grow hg (notZ1 hz)
  have ho : Opd (G.addRow w.heap.size vs) F (fun n => Z n ∨ Z1 lab n) x v := .of_noId hx hn
  exact h1.set hd ho.nb ho.rv ho.cl ho.ids

theorem bytes_RW (s : List UInt8) (arr : Array Value) (harr : ∀ (j : Nat) (b : UInt8), s[j]? = some b → arr[j]? = some (.int .u8 b.toNat)) (b : Nat) (cap : Nat) (hcap : s.length ≤ cap) :
    R1 (G.addRow b arr).S G.E (.slice (s.map rowOfByte) false .no) (.slice (some ⟨b, 0, none⟩) s.length cap) := by
  have hcell : ∀ i j x, cellAt (s.map rowOfByte) i j = some x → j = 0 ∧ ∃ c, s[i]? = some c ∧ x = .at (.int .u8 c.toNat) := by
    intro i j x hx
    unfold cellAt at hx
    obtain ⟨r, e1, e2⟩ := Option.bind_eq_some_iff.1 hx
    rw [List.getElem?_map] at e1
    simp only [Option.map_eq_some_iff] at e1
    obtain ⟨c, hc, rfl⟩ := e1
    unfold rowOfByte at e2
    cases j with
    | zero => simp at e2; exact ⟨rfl, c, hc, e2.symm⟩
    | succ j => simp at e2
  have := R1.slice (S := (G.addRow b arr).S) (E := G.E) (s.map rowOfByte) .no b 0 cap 1 (fun i j => match s[i]? with | some c => .int .u8 c.toNat | none => Go.undef) (by simpa using hcap)
    (fun r hr => by obtain ⟨c, _, rfl⟩ := List.mem_map.1 hr; rfl) (by intro h; cases h)
    (fun i j x hx => by obtain ⟨_, c, _, rfl⟩ := hcell i j x hx; rfl)
    (fun i j x hx => by
      obtain ⟨rfl, c, hc, rfl⟩ := hcell i j x hx
      simp only [Gh.addRow, Nat.zero_add, Nat.mul_one, Nat.add_zero, true_and, if_true, hc]
      exact harr i c hc)
    (fun i j x hx => by
      obtain ⟨rfl, c, hc, rfl⟩ := hcell i j x hx
      simp only [hc]
      exact .at _)
  simpa using this

theorem q_strBytes (h : Inv E0 w0 Z G F a w) (hz : ∀ n, Z1 lab n → ¬ Z n) (hd : d < F.n) {o : Oper} {s t e : TypeId} {x : Operand} (ho : o.op = .convert s t x) (he : tel P t = some e) (hst : isStr P s = true) (hu8 : isU8 P e = true) {b : ByteArray} (hx : F.ev x = .at (.string b)) :
    Yields E0 w0 Z lab d G F a w P o (.slice (b.data.toList.map rowOfByte) false .no) := by
  have hxr := (opd h x).rv
  rw [hx] at hxr
  have hxr : R1 G.S G.E (.at (.string b)) (a.eval x) := hxr
  generalize hv : a.eval x = v at *
  cases hxr
  obtain ⟨cap, hcap, hc⟩ : ∃ cap, b.size ≤ cap ∧ (choose (.appendCap b.size 0 e)).run P w = .ok cap w.drew :=
    ⟨(Question.appendCap b.size 0 e).cut (w.tape w.drawn (.appendCap b.size 0 e)), Nat.le_add_right _ _, by rw [run_choose]; exact if_neg (by intro h; cases h)⟩
  obtain ⟨arr, harrd⟩ : ∃ arr : Array Value, arr = (b.data.map fun c => Value.int .u8 c.toNat) ++ Array.replicate (cap - b.size) (.int .u8 0) := ⟨_, rfl⟩
  have hbs : b.data.size = b.size := rfl
  obtain ⟨W, hW⟩ : ∃ W : World, W = (w.drew.alloc (.cells arr e)).freeze ⟨w.heap.size, arr.size, none⟩ 1 := ⟨_, rfl⟩
  have hheap : W.heap = (w.heap.push (.cells arr e)).modify w.heap.size fun
      | .cells c elem (lo, hi) => .cells c elem (if lo == hi then (arr.size, arr.size + 1) else (min lo arr.size, max hi (arr.size + 1)))
      | o => o := by rw [hW]; unfold World.freeze; rw [if_neg (by decide)]; rfl
  have hrun : (execOp a.eval o).run P w = .ok (.value (.slice (some ⟨w.heap.size, 0, none⟩) b.size cap)) W := by
    have hpat : (convert s t (.string b)).run P w = (Conv.stringToBytes e b).run P w := by
      simp [convert, Sem.run_bind, run_underlying (isStr_und hst), run_underlying (tel_und he), run_underlying (isU8_und hu8)]
    simp only [execOp, ho, hv, Sem.run_bind, hpat]
    have hshape : (w.drew.alloc (.cells arr e)).shape? w.heap.size = some (e, arr.size) := by
      show (match (w.heap.push (Obj.cells arr e))[w.heap.size]? with | some (.cells c elem _) => some (elem, c.size) | _ => none) = _
      simp
    have : (Conv.stringToBytes e b).run P w = .ok (.slice (some ⟨w.heap.size, 0, none⟩) b.size cap) W := by
      simp only [Conv.stringToBytes, Sem.run_bind, hc, Result.andThen_ok, newRow, run_newObj, Sem.run_pure, markStringish, run_shape, ← harrd]
      show ((match (w.drew.alloc (.cells arr e)).shape? w.heap.size with
        | some (_, n) => freeze { block := w.heap.size, off := n } 1
        | _ => pure ()).run P (w.drew.alloc (.cells arr e))).andThen _ = _
      rw [hshape, hW, harrd]
      rfl
    rw [this]
    rfl
  have hold : ∀ k, k < w.heap.size → W.heap[k]? = w.heap[k]? := by
    intro k hk
    rw [hheap, Array.getElem?_modify, if_neg (by omega)]
    exact Below.heap_alloc w _ k hk
  have hnew : ∀ o v, arr[o]? = some v → W.cell? ⟨w.heap.size, o, none⟩ = some v := by
    intro o v hv
    have : (w.heap.push (.cells arr e))[w.heap.size]? = some (.cells arr e (0, 0)) := by simp
    simp only [World.cell?, hheap, Array.getElem?_modify, if_true, this, Option.map_some]
    simpa using hv
  have hg := grow_new (lab := lab) h arr (w' := W) (by rw [hheap]; simp) hold hnew (by rw [hW]; unfold World.freeze; rw [if_neg (by decide)]; rfl) (by rw [hW]; unfold World.freeze; rw [if_neg (by decide)]; rfl) (by rw [hW]; unfold World.freeze; rw [if_neg (by decide)]; rfl)
  have hlen : b.data.toList.length = b.size := (Array.length_toList (xs := b.data))
  refine Yields.new h hz hd hrun hg ?_ ?_
  · have := bytes_RW (G := G) b.data.toList arr (fun j c hc => by
      have hj : j < b.data.size := by
        have := (List.getElem?_eq_some_iff.1 hc).1
        simpa using this
      have hc' : b.data[j]? = some c := by simpa using hc
      rw [harrd]
      rw [Array.getElem?_append_left (by simpa using hj)]
      simp [hc']) w.heap.size cap (by rw [hlen]; exact hcap)
    rw [hlen] at this
    exact this
  · rintro n ⟨y, hy, rows, nl, rfl⟩; simp [parts] at hy

theorem q_conv (h : Inv E0 w0 Z G F a w) (hz : ∀ n, Z1 lab n → ¬ Z n) (hd : d < F.n) {o : Oper} {s t : TypeId} {x : Operand} (ho : o.op = .convert s t x) {r : AV} (hr : convA P s t (F.ev x) = some r) : Yields E0 w0 Z lab d G F a w P o r := by
  have hpr : ∀ u, (F.ev x).val = some u → ∀ r, (pr P (convert s t u)).map absV = some r → Yields E0 w0 Z lab d G F a w P o r := by
    intro u hu r hr
    simp only [Option.map_eq_some_iff] at hr
    obtain ⟨q, hq, rfl⟩ := hr
    have e1 := val_free hu (opd h x).nb (opd h x).rv
    exact q_pr h hd (s := convert s t u) (by simp only [execOp, ho, e1]) hq
  unfold convA at hr
  split at hr
  · rename_i rows nl own hx
    split at hr
    · rename_i e he hst
      split at hr
      · rename_i hu8
        simp only [Option.map_eq_some_iff] at hr
        obtain ⟨bs, hbs, rfl⟩ := hr
        exact q_bytesStr h hd ho he hst hu8 hx hbs
      · cases hr
    · cases hr
  · rename_i b hx
    split at hr
    · rename_i e he
      split at hr
      · rename_i hc
        simp only [Bool.and_eq_true] at hc
        have := Option.some.inj hr; subst this
        exact q_strBytes h hz hd ho he hc.2 hc.1 hx
      · cases hr
    · exact hpr _ (by rw [hx]; rfl) r hr
  · split at hr
    · rename_i u hu
      exact hpr u hu r hr
    · cases hr

/-- **A quiet operation does what is reckoned.** -/
theorem quiet_sound (h : Inv E0 w0 Z G F a w) (hz : ∀ n, Z1 lab n → ¬ Z n) (hd : d < F.n) {o : Oper} {ds : List Nat} {x : AV} (hq : quiet P F ds lab o.op = some x) : Yields E0 w0 Z lab d G F a w P o x := by
  generalize ho : o.op = op at hq
  cases op <;> simp only [quiet] at hq <;> first | (cases hq; done) | skip
  case move y => have := Option.some.inj hq; subst this; exact q_move h hd (.inl ho)
  case assign y => have := Option.some.inj hq; subst this; exact q_move h hd (.inr ho)
  case pick c y z =>
    split at hq
    · rename_i t ht
      have := Option.some.inj hq; subst this
      exact q_pick h hd ho ht
    · cases hq
  case alloc e =>
    simp only [Option.map_eq_some_iff] at hq
    obtain ⟨cs, hc, rfl⟩ := hq
    exact q_alloc h hz hd ho hc
  case box e y =>
    split at hq
    · rename_i hs
      have := Option.some.inj hq; subst this
      exact q_box h hz hd ho hs
    · cases hq
  case build t ps =>
    split at hq
    · rename_i cs place h1 h2
      simp only [Option.map_eq_some_iff] at hq
      obtain ⟨r, hr, rfl⟩ := hq
      exact q_build h hd ho h1 h2 hr
    · cases hq
  case buildSlice t len ps =>
    split at hq
    · rename_i e he
      split at hq
      · rename_i z sz h1 h2
        split at hq
        · rename_i hc
          simp only [Option.map_eq_some_iff] at hq
          obtain ⟨rows, hr, rfl⟩ := hq
          exact q_buildSlice h hz hd ho he h1 h2 hc hr
        · cases hq
      · cases hq
    · cases hq
  case makeSlice t y z =>
    split at hq
    · rename_i e n k he hn hk
      split at hq
      · rename_i zc sz by_ h1 h2 h3
        split at hq
        · rename_i hc
          obtain ⟨rfl, c1, c2, c3, c4, c5⟩ := hc
          have := Option.some.inj hq; subst this
          exact q_makeSlice h hz hd ho he hn hk h1 h2 h3 c1 c2 c3 c4 c5
        · cases hq
      · cases hq
    · cases hq
  case load t p =>
    split at hq
    · rename_i row off n g h1 h2 h3
      simp only [Option.map_eq_some_iff] at hq
      obtain ⟨r, hr, rfl⟩ := hq
      exact q_load h hd ho h1 h2 h3 hr
    · cases hq
  case nilCheck y =>
    split at hq
    · rename_i row off hy
      have := Option.some.inj hq; subst this
      rw [← hy]
      exact q_nil h hd ho ⟨0, _, by rw [hy]; rfl⟩
    · rename_i g t off hy
      have := Option.some.inj hq; subst this
      rw [← hy]
      exact q_nil h hd ho ⟨0, _, by rw [hy]; rfl⟩
    · rename_i l off hy
      have := Option.some.inj hq; subst this
      rw [← hy]
      exact q_nil h hd ho ⟨0, _, by rw [hy]; rfl⟩
    · cases hq
  case binOp op xt y z yt =>
    split at hq
    · rename_i v hv
      have := Option.some.inj hq; subst this
      exact q_nilEq h hd ho hv
    · exact q_bin h hd ho hq
  case unOp op xt y =>
    split at hq
    · rename_i u hu
      simp only [Option.map_eq_some_iff] at hq
      obtain ⟨r, hr, rfl⟩ := hq
      exact q_un h hd ho hu hr
    · cases hq
  case convert s t y => exact q_conv h hz hd ho hq
  case slice t y lo hi mx => exact q_slice h hd ho hq
  case fieldAddr t y i => exact q_fieldAddr h hd ho hq
  case field t y i => exact q_field h hd ho hq
  case indexAddr t y i => exact q_indexAddr h hd ho hq
  case index t y i => exact q_index h hd ho hq
  case extract y i =>
    split at hq
    · rename_i vs hy
      simp only [Option.map_eq_some_iff] at hq
      obtain ⟨z, hz', rfl⟩ := hq
      exact q_extract h hd ho hy hz'
    · cases hq
end
end Go.Proofs.V
