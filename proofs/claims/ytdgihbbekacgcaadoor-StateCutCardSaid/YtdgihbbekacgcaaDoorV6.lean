/- The quiet operations: each of them does what is reckoned. -/
import Derived.Test.YtdgihbbekacgcaaDoorV5
import Derived.Laws.BytesString
namespace Go.Proofs.V
open Go Go.RowKit
set_option linter.unusedVariables false
set_option linter.unusedSimpArgs false

section
variable {E0 : Nat → Prop} {w0 : Ent} {Z : Nat → Prop} {G : Gh} {F : St} {a : Act} {w : World} {P : Program} {lab : Nat} {d : Nat}

theorem q_move (h : Inv E0 w0 Z G F a w) (hd : d < F.n) {o : Oper} {x : Operand} (ho : o.op = .move x ∨ o.op = .assign x) : Yields E0 w0 Z lab d G F a w P o (F.ev x) :=
  Yields.same h hd (v := a.eval x) (by rcases ho with ho | ho <;> simp [execOp, ho]) (opd h x)

theorem bool_opd {x : AV} {v : Value} {t : Bool} (h : Opd G F Z x v) (hx : x = .at (.bool t)) : v = .bool t := by
  subst hx
  have := h.rv
  cases this
  rfl
theorem q_pick (h : Inv E0 w0 Z G F a w) (hd : d < F.n) {o : Oper} {c x y : Operand} (ho : o.op = .pick c x y) {t : Bool} (hc : F.ev c = .at (.bool t)) : Yields E0 w0 Z lab d G F a w P o (if t then F.ev x else F.ev y) := by
  have hv := bool_opd (opd h c) hc
  cases t with
  | true => exact Yields.same h hd (v := a.eval x) (by simp [execOp, ho, hv, asBool]) (opd h x)
  | false => exact Yields.same h hd (v := a.eval y) (by simp [execOp, ho, hv, asBool]) (opd h y)

theorem q_alloc (h : Inv E0 w0 Z G F a w) (hz : ∀ n, Z1 lab n → ¬ Z n) (hd : d < F.n) {o : Oper} {e : TypeId} (ho : o.op = .alloc e) {cs : List AV} (hc : tzero P e = some cs) : Yields E0 w0 Z lab d G F a w P o (.box lab cs) := by
  obtain ⟨i, z, h1, h2, rfl, hp, hl⟩ := tzero_info hc
  refine Yields.box h hz hd (vs := z.cells) (ty := e) ?_ ⟨hl.symm, hp, absV_cells G z hp⟩ ?_
  · simp [execOp, ho, Instr.alloc, Sem.run_bind, run_zero h1 h2, newVar, newRow]
  · intro y hy rows nl n he
    subst he
    unfold AV.cells at hy
    split at hy
    · rename_i cs hcs
      exact noId_absV z n ⟨_, by rw [hcs]; exact hy, rows, nl, rfl⟩
    · rename_i hna
      simp at hy
      exact noId_absV z n ⟨.slice rows nl (.id n), by rw [← hy]; simp [parts], rows, nl, rfl⟩

theorem opd_R1 {x : AV} {v : Value} (h : Opd G F Z x v) (hx : x.free = true) : R1 G.S G.E x v := R1_of h.rv hx
theorem storable_free {x : AV} (h : x.storable = true) : x.free = true := by
  unfold AV.storable at h
  unfold AV.free
  split at h <;> first | (cases h; done) | (split <;> simp_all)
theorem q_box (h : Inv E0 w0 Z G F a w) (hz : ∀ n, Z1 lab n → ¬ Z n) (hd : d < F.n) {o : Oper} {e : TypeId} {x : Operand} (ho : o.op = .box e x) (hs : (F.ev x).storable = true) : Yields E0 w0 Z lab d G F a w P o (.box lab ((F.ev x).cells.map strip1)) := by
  have hr := opd_R1 (opd h x) (storable_free hs)
  refine Yields.box h hz hd (vs := (a.eval x).cells) (ty := e) ?_ (cells_R1 hr hs).strip ?_
  · simp [execOp, ho, Instr.box, Sem.run_bind, newVar, newRow]
  · intro y hy rows nl n he
    subst he
    obtain ⟨u, _, hu⟩ := List.mem_map.1 hy
    exact noId_strip1 u _ _ _ hu

theorem strip2_slice {x : AV} : (∃ rows nl own, x = .slice rows nl own ∧ strip2 x = x) ∨ strip2 x = strip x := by
  unfold strip2
  split
  · exact .inl ⟨_, _, _, rfl, rfl⟩
  · exact .inr rfl
theorem q_extract (h : Inv E0 w0 Z G F a w) (hd : d < F.n) {o : Oper} {x : Operand} {i : Nat} (ho : o.op = .extract x i) {vs : List AV} (hx : F.ev x = .tup vs) {y : AV} (hy : vs[i]? = some y) : Yields E0 w0 Z lab d G F a w P o (strip2 y) := by
  have ho' := opd h x
  rw [hx] at ho'
  have hr : R1 G.S G.E (.tup vs) (a.eval x) := ho'.rv
  generalize hv : a.eval x = v at *
  cases hr with
  | tup _ us hl hpt =>
    obtain ⟨u, hu⟩ : ∃ u, us[i]? = some u := by
      have : i < vs.length := (List.getElem?_eq_some_iff.1 hy).1
      exact ⟨us[i]'(by omega), List.getElem?_eq_getElem (by omega)⟩
    have hr := hpt i y u hy hu
    have hrun : (execOp a.eval o).run P w = .ok (.value u) w := by simp [execOp, ho, hv, Instr.extract, hu]
    rcases strip2_slice (x := y) with ⟨rows, nl, own, rfl, e⟩ | e
    · rw [e]
      refine Yields.same h hd hrun ⟨RV_of hr, (by rintro g cs h; cases h), ?_, fun n hn => ?_⟩
      · intro j z t hz ht
        cases j with
        | succ j => simp [parts] at hz
        | zero =>
          have hvp : vparts u = [u] := by cases hr <;> rfl
          rw [hvp] at ht
          simp [parts] at hz ht
          subst hz; subst ht
          exact ho'.cl i _ _ hy (by simpa [vparts] using hu)
      · obtain ⟨z, hz, r2, n2, rfl⟩ := hn
        simp only [parts, List.mem_singleton] at hz
        exact ho'.ids n ⟨_, by simp only [parts]; exact List.mem_of_getElem? hy, r2, n2, hz.symm⟩
    · rw [e]
      exact Yields.same h hd hrun (.of_noId (strip_R1 hr) (noId_strip (by rintro g cs rfl; cases hr)))

theorem q_pr (h : Inv E0 w0 Z G F a w) (hd : d < F.n) {o : Oper} {s : Sem Value} {u : Value} (hrun : execOp a.eval o = (do pure (.value (← s)))) (hs : pr P s = some u) : Yields E0 w0 Z lab d G F a w P o (absV u) := by
  refine Yields.same h hd (v := u) ?_ (.of_noId (absV_R1 _ _ u) (noId_absV u))
  rw [hrun]
  simp [Sem.run_bind, pr_run s u hs]

theorem val_free {x : AV} {u : Value} (h : x.val = some u) (hb : ∀ g cs, x ≠ .box g cs) : ∀ {v}, RV G x v → v = u := by
  intro v hv
  cases x with
  | fp g t off => simp [AV.val, val1] at h
  | box g cs => exact absurd rfl (hb g cs)
  | _ => exact val_R1 h hv
theorem q_bin (h : Inv E0 w0 Z G F a w) (hd : d < F.n) {o : Oper} {op : BinOp} {xt yt : TypeId} {x y : Operand} (ho : o.op = .binOp op xt x y yt) {r : AV} (hr : binA P op xt x y (F.ev x) (F.ev y) = some r) : Yields E0 w0 Z lab d G F a w P o r := by
  unfold binA at hr
  split at hr
  · rename_i u v hu hv
    simp only [Option.map_eq_some_iff] at hr
    obtain ⟨q, hq, rfl⟩ := hr
    have e1 := val_free hu (opd h x).nb (opd h x).rv
    have e2 := val_free hv (opd h y).nb (opd h y).rv
    refine q_pr h hd (s := do eqGuard op xt x y u v; binOp op xt u v) ?_ hq
    simp only [execOp, ho, e1, e2]
  · cases hr
theorem q_un (h : Inv E0 w0 Z G F a w) (hd : d < F.n) {o : Oper} {op : UnOp} {xt : TypeId} {x : Operand} (ho : o.op = .unOp op xt x) {u r : Value} (hu : (F.ev x).val = some u) (hr : pr P (Op.unary op u) = some r) : Yields E0 w0 Z lab d G F a w P o (absV r) := by
  have e1 := val_free hu (opd h x).nb (opd h x).rv
  exact q_pr h hd (s := Op.unary op u) (by simp only [execOp, ho, e1]) hr

/-! ### Pointers -/
theorem shift_R {x y : AV} {k : Nat} (hs : x.shift k = some y) {v : Value} (hr : RV G x v) : ∃ b o, v = .pointer (some ⟨b, o, none⟩) ∧ RV G y (.pointer (some ⟨b, o + k, none⟩)) ∧ NoId y ∧ (∀ g cs, y ≠ .box g cs) := by
  cases x <;> simp only [AV.shift] at hs <;> first | (cases hs; done) | skip
  · rename_i row off
    have := Option.some.inj hs; subst this
    have hr : R1 G.S G.E (.ref row off) v := hr
    cases hr with
    | ref _ _ b o val hpl h1 h2 =>
      refine ⟨b, o + off, rfl, ?_, by rintro n ⟨y, hy, rows, nl, rfl⟩; simp [parts] at hy, by intro g cs h; cases h⟩
      have := R1.ref (S := G.S) (E := G.E) row (off + k) b o val hpl h1 h2
      rw [← Nat.add_assoc] at this
      exact this
  · rename_i g t off
    have := Option.some.inj hs; subst this
    obtain ⟨b, hb, rfl⟩ := hr
    exact ⟨b, off, rfl, ⟨b, hb, rfl⟩, noId_fp _ _ _, by intro g cs h; cases h⟩
  · rename_i l off
    have := Option.some.inj hs; subst this
    have hr : R1 G.S G.E (.hp l off) v := hr
    cases hr with
    | hp _ _ b hb => exact ⟨b, off, rfl, R1.hp l (off + k) b hb, by rintro n ⟨y, hy, rows, nl, rfl⟩; simp [parts] at hy, by intro g cs h; cases h⟩
theorem add_none (b o k : Nat) : (⟨b, o, none⟩ : Addr).add k = ⟨b, o + k, none⟩ := by
  unfold Addr.add
  split
  · rename_i h; subst h; rfl
  · rfl

theorem q_fieldAddr (h : Inv E0 w0 Z G F a w) (hd : d < F.n) {o : Oper} {t : TypeId} {x : Operand} {i : Nat} (ho : o.op = .fieldAddr t x i) {r : AV} (hr : fieldAddrA P t (F.ev x) i = some r) : Yields E0 w0 Z lab d G F a w P o r := by
  unfold fieldAddrA at hr
  split at hr
  · rename_i off sz hpl
    split at hr
    · cases hr
    · rename_i hne
      unfold placeOf at hpl
      split at hpl
      · rename_i off' ft hf
        simp only [Option.map_eq_some_iff] at hpl
        obtain ⟨sz', hsz, he⟩ := hpl
        cases he
        obtain ⟨fs, f, hu, hfi, ho1, ho2⟩ := tfield_und hf
        obtain ⟨b, p, hv, hrv, hni, hnb⟩ := shift_R hr (opd h x).rv
        refine Yields.same h hd (v := .pointer (some ⟨b, p + off, none⟩)) ?_ ⟨hrv, hnb, Cl_of_noId hni, fun n hn => (hni n hn).elim⟩
        simp [execOp, ho, hv, Instr.fieldAt, Sem.run_bind, run_underlying hu, hfi, Instr.sureAddr, fieldPlace, ho2, run_tsz hsz, hne, ho1, add_none]
      · cases hpl
  · cases hr

theorem int_opd {x : AV} {v : Value} {n : Int} (hb : RV G x v) (hx : intOfA x = some n) : ∃ k, v = .int k n := by
  unfold intOfA at hx
  split at hx
  · have := Option.some.inj hx; subst this
    cases hb
    exact ⟨_, rfl⟩
  · cases hx

theorem cellAt_row {rows : List (List AV)} {i : Nat} {row : List AV} (h : rows[i]? = some row) (j : Nat) : cellAt rows i j = row[j]? := by simp [cellAt, h]

theorem q_indexAddr (h : Inv E0 w0 Z G F a w) (hd : d < F.n) {o : Oper} {t : TypeId} {x i : Operand} (ho : o.op = .indexAddr t x i) {r : AV} (hr : indexAddrA P t (F.ev x) (F.ev i) = some r) : Yields E0 w0 Z lab d G F a w P o r := by
  unfold indexAddrA at hr
  split at hr
  · rename_i rows nl own n hx hi
    obtain ⟨k, hiv⟩ := int_opd (opd h i).rv hi
    split at hr
    · rename_i e he
      split at hr
      · rename_i h0
        split at hr
        · rename_i row hrow
          split at hr
          · rename_i hsz
            have := Option.some.inj hr; subst this
            have hlt : n.toNat < rows.length := (List.getElem?_eq_some_iff.1 hrow).1
            have hxr := (opd h x).rv
            rw [hx] at hxr
            have hxr : R1 G.S G.E (.slice rows nl own) (a.eval x) := hxr
            generalize hv : a.eval x = v at *
            cases hxr with
            | nil => simp at hlt
            | slice _ _ b off cap sz val hlen hall hfull hpl h1 h2 =>
              have hszr : row.length = sz := hall row (List.mem_of_getElem? hrow)
              have hcell := cellAt_row hrow
              refine Yields.same h hd (v := .pointer (some ⟨b, off + n.toNat * sz, none⟩)) ?_ (.of_noId ?_ ?_)
              · have hn : n < (rows.length : Int) := by omega
                simp [execOp, ho, hv, hiv, Instr.indexAt, asIntOf, Sem.run_bind, run_underlying (tel_und he), run_tsz hsz, h0, hn, add_none, hszr]
              · refine R1.ref row 0 b (off + n.toNat * sz) (fun j => val n.toNat j) (fun x hx => ?_) (fun j x hx => ?_) (fun j x hx => ?_)
                · obtain ⟨j, hj⟩ := List.getElem?_of_mem hx
                  exact hpl n.toNat j x (by rw [hcell]; exact hj)
                · have := h1 n.toNat j x (by rw [hcell]; exact hx)
                  rw [Nat.add_assoc]; exact this
                · exact h2 n.toNat j x (by rw [hcell]; exact hx)
              · rintro n ⟨y, hy, rows, nl, rfl⟩; simp [parts] at hy
          · cases hr
        · cases hr
      · cases hr
    · cases hr
  · rename_i loc off len cap sz n hx hi
    obtain ⟨k, hiv⟩ := int_opd (opd h i).rv hi
    split at hr
    · rename_i e he
      split at hr
      · rename_i h0
        have := Option.some.inj hr; subst this
        have hxr := (opd h x).rv
        rw [hx] at hxr
        have hxr : R1 G.S G.E (.hs loc off len cap sz) (a.eval x) := hxr
        generalize hv : a.eval x = v at *
        cases hxr with
        | hs _ _ _ _ _ b hb =>
          refine Yields.same h hd (v := .pointer (some ⟨b, off + n.toNat * sz, none⟩)) ?_ (.of_noId (.hp _ _ _ hb) ?_)
          · simp [execOp, ho, hv, hiv, Instr.indexAt, asIntOf, Sem.run_bind, run_underlying (tel_und he), run_tsz h0.2.2, h0.1, h0.2.1, add_none]
          · rintro n ⟨y, hy, rows, nl, rfl⟩; simp [parts] at hy
      · cases hr
    · cases hr
  · rename_i n hi hnx hnh
    obtain ⟨k, hiv⟩ := int_opd (opd h i).rv hi
    split at hr
    · rename_i len e he
      split at hr
      · rename_i h0
        split at hr
        · rename_i sz hsz
          obtain ⟨b, q, hv, hrv, hni, hnb⟩ := shift_R hr (opd h x).rv
          refine Yields.same h hd (v := .pointer (some ⟨b, q + n.toNat * sz, none⟩)) ?_ ⟨hrv, hnb, Cl_of_noId hni, fun n hn => (hni n hn).elim⟩
          simp [execOp, ho, hv, hiv, Instr.indexAt, asIntOf, Sem.run_bind, run_underlying (tarr_und he), run_tsz hsz, h0.1, h0.2, add_none, Instr.sureAddr]
        · cases hr
      · cases hr
    · cases hr
  · cases hr
end
end Go.Proofs.V
