/- The quiet operations, to the end. -/
import Derived.Test.YtdgihbbekacgcaaDoorV7
import Derived.Laws.BytesString
namespace Go.Proofs.V
open Go Go.RowKit
set_option linter.unusedVariables false
set_option linter.unusedSimpArgs false

section
variable {E0 : Nat → Prop} {w0 : Ent} {Z : Nat → Prop} {G : Gh} {F : St} {a : Act} {w : World} {P : Program} {lab : Nat} {d : Nat}

theorem nid_at (v : Value) : NoId (.at v) := by rintro n ⟨y, hy, rows, nl, rfl⟩; simp [parts] at hy

/-- A part of an aggregate that is held as a value. -/
theorem part_opd {cs : List AV} {vs : List Value} (hx : Opd G F Z (.agg cs) (.agg vs.toArray)) (hl : vs.length = cs.length) (hpl : ∀ x ∈ cs, AV.plain x = true)
    (hR : ∀ (j : Nat) (x : AV) (v : Value), cs[j]? = some x → vs[j]? = some v → R1 G.S G.E x v) {g : Bool} {n off : Nat} {r : AV} (hp : partA g n cs off = some r) :
    (g = true → off + n ≤ vs.length) ∧ (g = false → off < vs.length) ∧ Opd G F Z r (if g then .agg ((List.range n).map fun j => vs.getD (off + j) Go.undef).toArray else vs.getD off Go.undef) := by
  have hf : ∀ (j : Nat) (x : AV), cs[j]? = some x → vs[j]? = some (vs.getD j Go.undef) := fun j x hx => by
    have hj : j < vs.length := by rw [hl]; exact (List.getElem?_eq_some_iff.1 hx).1
    simp [List.getD, hj]
  obtain ⟨q1, q2, q3, q4⟩ := part_R (G := G) (f := fun j => vs.getD j Go.undef) hp (fun _ => trivial) hpl (fun j x hx => hR j x _ hx (hf j x hx))
  have hcl : ∀ (j : Nat) (x : AV), cs[j]? = some x → Cl1 G F.al x (vs.getD j Go.undef) := fun j x hxj => hx.cl j x _ hxj (by simpa [vparts] using hf j x hxj)
  refine ⟨fun hg => by rw [hl]; exact (q1 hg).1, fun hg => by rw [hl]; exact (q2 hg).1, ?_⟩
  cases g with
  | true =>
    refine ⟨RV_of (q1 rfl).2, q4, ?_, fun n hn => ?_⟩
    · intro j y u hy hu
      simp only [partA, if_true, Option.map_eq_some_iff, take?] at hp
      obtain ⟨l, hl', rfl⟩ := hp
      split at hl'
      · have := Option.some.inj hl'; subst this
        simp only [parts] at hy
        rw [List.getElem?_take] at hy
        split at hy
        · rename_i hjn
          rw [List.getElem?_drop] at hy
          simp only [if_true, vparts, List.getElem?_map, List.getElem?_range hjn, Option.map_some, Option.some.injEq] at hu
          subst hu
          exact hcl _ _ hy
        · cases hy
      · cases hl'
    · obtain ⟨j, x, hxj, hi⟩ := q3 n hn
      have hpx := hpl x (List.mem_of_getElem? hxj)
      obtain ⟨y, hy, rows, nl, rfl⟩ := hi
      rw [plain_parts hpx] at hy
      have hxy := (List.mem_singleton.1 hy).symm
      exact hx.ids n ⟨_, by simp [parts]; exact List.mem_of_getElem? hxj, rows, nl, hxy⟩
  | false =>
    simp only [partA, Bool.false_eq_true, if_false] at hp
    have hpx := hpl r (List.mem_of_getElem? hp)
    refine ⟨RV_of (q2 rfl).2, q4, ?_, fun n hn => ?_⟩
    · intro j y u hy hu
      have hone := R1.one (q2 rfl).2 hpx
      have hvp : vparts (vs.getD off Go.undef) = [vs.getD off Go.undef] := by
        generalize vs.getD off Go.undef = z at *
        cases z <;> first | rfl | (cases hone)
      rw [plain_parts hpx] at hy
      simp only [Bool.false_eq_true, if_false, hvp] at hu
      cases j with
      | succ j => simp at hy
      | zero =>
        have e1 : r = y := Option.some.inj hy
        have e2 : vs.getD off Go.undef = u := Option.some.inj hu
        subst e1; subst e2
        exact hcl off _ hp
    · obtain ⟨y, hy, rows, nl, rfl⟩ := hn
      rw [plain_parts hpx] at hy
      have hxy := (List.mem_singleton.1 hy).symm
      exact hx.ids n ⟨_, by simp [parts]; exact List.mem_of_getElem? hp, rows, nl, hxy⟩

theorem q_field (h : Inv E0 w0 Z G F a w) (hd : d < F.n) {o : Oper} {t : TypeId} {x : Operand} {i : Nat} (ho : o.op = .field t x i) {r : AV} (hr : fieldA P t (F.ev x) i = some r) : Yields E0 w0 Z lab d G F a w P o r := by
  unfold fieldA at hr
  split at hr
  · rename_i cs off ft hx hf
    split at hr
    · rename_i sz g hsz hg
      obtain ⟨fs, f, hu, hfi, ho1, ho2⟩ := tfield_und hf
      have hop := opd h x
      rw [hx] at hop
      have hrv : R1 G.S G.E (.agg cs) (a.eval x) := hop.rv
      generalize hv : a.eval x = v at *
      cases hrv with
      | agg _ vs hl hpl hR =>
        obtain ⟨q1, q2, q3⟩ := part_opd hop hl hpl hR hr
        refine Yields.same h hd ?_ q3
        have := part_run (P := P) (w := w) vs hg hsz q1 q2
        simp [execOp, ho, hv, Instr.field, Sem.run_bind, run_underlying hu, hfi, asAgg, ho1, ho2, this]
    · cases hr
  · cases hr

theorem ba_get (s : ByteArray) (i : Nat) : s[i]? = s.data.toList[i]? := by
  have : s[i]? = s.data[i]? := by simp [getElem?, decidableGetElem?]; rfl
  rw [this]; simp

theorem q_index (h : Inv E0 w0 Z G F a w) (hd : d < F.n) {o : Oper} {t : TypeId} {x i : Operand} (ho : o.op = .index t x i) {r : AV} (hr : indexA P t (F.ev x) (F.ev i) = some r) : Yields E0 w0 Z lab d G F a w P o r := by
  unfold indexA at hr
  split at hr
  · rename_i s n hx hi
    obtain ⟨k, hiv⟩ := int_opd (opd h i).rv hi
    split at hr
    · rename_i hc
      simp only [Option.map_eq_some_iff] at hr
      obtain ⟨b, hb, rfl⟩ := hr
      have hop := opd h x
      rw [hx] at hop
      have hrv : R1 G.S G.E (.at (.string s)) (a.eval x) := hop.rv
      generalize hv : a.eval x = v at *
      cases hrv
      refine Yields.same h hd (v := .int .u8 b.toNat) ?_ (.of_noId (.at _) (nid_at _))
      have hb' : s.data[n.toNat]? = some b := by simpa using hb
      simp [execOp, ho, hv, hiv, Instr.index, asIntOf, Sem.run_bind, run_underlying (isStr_und hc.2), hc.1, ba_get, hb']
    · cases hr
  · rename_i cs n hx hi
    obtain ⟨k, hiv⟩ := int_opd (opd h i).rv hi
    split at hr
    · rename_i len e he
      split at hr
      · rename_i hc
        split at hr
        · rename_i sz g hsz hg
          have hop := opd h x
          rw [hx] at hop
          have hrv : R1 G.S G.E (.agg cs) (a.eval x) := hop.rv
          generalize hv : a.eval x = v at *
          cases hrv with
          | agg _ vs hl hpl hR =>
            obtain ⟨q1, q2, q3⟩ := part_opd hop hl hpl hR hr
            refine Yields.same h hd ?_ q3
            have := part_run (P := P) (w := w) vs hg hsz q1 q2
            simp [execOp, ho, hv, hiv, Instr.index, asIntOf, Sem.run_bind, run_underlying (tarr_und he), hc.1, hc.2, run_tsz hsz, this]
        · cases hr
      · cases hr
    · cases hr
  · cases hr

theorem q_nilEq (h : Inv E0 w0 Z G F a w) (hd : d < F.n) {o : Oper} {op : BinOp} {xt yt : TypeId} {x y : Operand} (ho : o.op = .binOp op xt x y yt) {r : AV} (hr : nilEq P op xt (F.ev x) (F.ev y) = some r) : Yields E0 w0 Z lab d G F a w P o r := by
  have key : ∀ rows nl own own', F.ev x = .slice rows nl own → F.ev y = .slice [] true own' → ∃ oa len cap, a.eval x = .slice oa len cap ∧ nl = oa.isNone ∧ a.eval y = .slice none 0 0 := by
    intro rows nl own own' hx hy
    have h1 := (opd h x).rv
    have h2 := (opd h y).rv
    rw [hx] at h1; rw [hy] at h2
    have h1 : R1 G.S G.E (.slice rows nl own) (a.eval x) := h1
    have h2 : R1 G.S G.E (.slice [] true own') (a.eval y) := h2
    generalize a.eval x = v at *
    generalize a.eval y = u at *
    cases h2
    cases h1
    · exact ⟨none, 0, 0, rfl, rfl, rfl⟩
    · exact ⟨_, _, _, rfl, rfl, rfl⟩
  have fin : ∀ e rows nl own own', tel P xt = some e → F.ev x = .slice rows nl own → F.ev y = .slice [] true own' → (op = .eql → Yields E0 w0 Z lab d G F a w P o (.at (.bool nl))) ∧ (op = .neq → Yields E0 w0 Z lab d G F a w P o (.at (.bool !nl))) := by
    intro e rows nl own own' he hx hy
    obtain ⟨oa, len, cap, e1, e2, e3⟩ := key rows nl own own' hx hy
    have heq : ∀ w : World, (Op.equal xt (.slice oa len cap) (.slice none 0 0)).run P w = .ok oa.isNone w := by
      intro w
      unfold Op.equal Op.maxDepth
      unfold Op.equalIn
      simp only [Sem.run_bind, run_underlying (tel_und he), Result.andThen_ok]
      cases oa <;> rfl
    constructor
    · rintro rfl
      refine Yields.same h hd (v := .bool nl) ?_ (.of_noId (.at _) (nid_at _))
      simp [execOp, ho, e1, e3, eqGuard, binOp, Sem.run_bind, heq, e2]
    · rintro rfl
      refine Yields.same h hd (v := .bool !nl) ?_ (.of_noId (.at _) (nid_at _))
      simp [execOp, ho, e1, e3, eqGuard, binOp, Sem.run_bind, heq, e2]
  have finh : ∀ e l off len cap sz own', tel P xt = some e → F.ev x = .hs l off len cap sz → F.ev y = .slice [] true own' → (op = .eql → Yields E0 w0 Z lab d G F a w P o (.at (.bool false))) ∧ (op = .neq → Yields E0 w0 Z lab d G F a w P o (.at (.bool true))) := by
    intro e l off len cap sz own' he hx hy
    have h1 := (opd h x).rv
    have h2 := (opd h y).rv
    rw [hx] at h1; rw [hy] at h2
    have h1 : R1 G.S G.E (.hs l off len cap sz) (a.eval x) := h1
    have h2 : R1 G.S G.E (.slice [] true own') (a.eval y) := h2
    generalize e1 : a.eval x = v at *
    generalize e2 : a.eval y = u at *
    cases h2
    cases h1 with
    | hs _ _ _ _ _ b hb =>
      have heq : ∀ w : World, (Op.equal xt (.slice (some ⟨b, off, none⟩) len cap) (.slice none 0 0)).run P w = .ok false w := by
        intro w
        unfold Op.equal Op.maxDepth
        unfold Op.equalIn
        simp only [Sem.run_bind, run_underlying (tel_und he), Result.andThen_ok]
        rfl
      constructor
      · rintro rfl
        refine Yields.same h hd (v := .bool false) ?_ (.of_noId (.at _) (nid_at _))
        simp [execOp, ho, e1, e2, eqGuard, binOp, Sem.run_bind, heq]
      · rintro rfl
        refine Yields.same h hd (v := .bool true) ?_ (.of_noId (.at _) (nid_at _))
        simp [execOp, ho, e1, e2, eqGuard, binOp, Sem.run_bind, heq]
  unfold nilEq at hr
  split at hr
  · rename_i e r' rs nl own own' he hx hy
    have := Option.some.inj hr; subst this
    exact (fin _ _ _ _ _ he hx hy).1 rfl
  · rename_i e r' rs nl own own' he hx hy
    have := Option.some.inj hr; subst this
    exact (fin _ _ _ _ _ he hx hy).2 rfl
  · rename_i e nl own own' he hx hy
    have := Option.some.inj hr; subst this
    exact (fin _ _ _ _ _ he hx hy).1 rfl
  · rename_i e nl own own' he hx hy
    have := Option.some.inj hr; subst this
    exact (fin _ _ _ _ _ he hx hy).2 rfl
  · rename_i e l off len cap sz own' he hx hy
    have := Option.some.inj hr; subst this
    exact (finh _ _ _ _ _ _ _ he hx hy).1 rfl
  · rename_i e l off len cap sz own' he hx hy
    have := Option.some.inj hr; subst this
    exact (finh _ _ _ _ _ _ _ he hx hy).2 rfl
  · cases hr

theorem bnd_val {dflt : Int} {x : Option Operand} {n : Int} (h : Inv E0 w0 Z G F a w) (hb : bnd dflt (x.map F.ev) = some n) : (x = none ∧ n = dflt) ∨ ∃ y k, x = some y ∧ a.eval y = .int k n := by
  cases x with
  | none => simp [bnd] at hb; exact .inl ⟨rfl, hb.symm⟩
  | some y =>
    simp only [Option.map_some, bnd] at hb
    obtain ⟨k, hk⟩ := int_opd (opd h y).rv hb
    exact .inr ⟨y, k, rfl, hk⟩

theorem q_slice (h : Inv E0 w0 Z G F a w) (hd : d < F.n) {o : Oper} {t : TypeId} {x : Operand} {lo hi mx : Option Operand} (ho : o.op = .slice t x lo hi mx) {r : AV} (hr : sliceA P t (F.ev x) (lo.map F.ev) (hi.map F.ev) (mx.map F.ev) = some r) : Yields E0 w0 Z lab d G F a w P o r := by
  unfold sliceA at hr
  split at hr
  · rename_i rows nl own hx
    split at hr
    · rename_i e l hh he hl hhi
      split at hr
      · cases hr
      · rename_i sz hsz
        split at hr
        · rename_i hc
          obtain ⟨hl0, hlh, hhr, hall⟩ := hc
          have hxr := (opd h x).rv
          rw [hx] at hxr
          have hxr : R1 G.S G.E (.slice rows nl own) (a.eval x) := hxr
          have hlv := bnd_val h hl
          have hhv := bnd_val h hhi
          have hu := tel_und he
          generalize hv : a.eval x = v at *
          have hrows : ∀ r ∈ rows, r.length = sz := fun r hr => by simpa using List.all_eq_true.1 hall r hr
          have hlen : ((rows.take hh.toNat).drop l.toNat).length = hh.toNat - l.toNat := by simp; omega
          -- the run
          have hrun : ∀ (oa : Option Addr) (cap : Nat) (m : Nat), v = .slice oa rows.length cap → rows.length ≤ cap → ((mx = none ∧ m = cap) ∨ (∃ q k, mx = some q ∧ a.eval q = .int k (m : Int) ∧ hi.isSome = true ∧ m ≤ cap)) → hh.toNat ≤ m →
              (execOp a.eval o).run P w = .ok (.value (.slice (if m = l.toNat then oa else oa.map (·.add (l.toNat * sz))) (hh.toNat - l.toNat) (m - l.toNat))) w := by
            intro oa cap m hva hcap hm hhm
            rcases hm with ⟨rfl, rfl⟩ | ⟨q, k, rfl, hq, hs, hmc⟩
            · rcases hlv with ⟨rfl, rfl⟩ | ⟨y, ky, rfl, hy⟩ <;> rcases hhv with ⟨rfl, rfl⟩ | ⟨z, kz, rfl, hz⟩
              · simp [execOp, ho, hv, hva, Instr.sliceAt, Instr.slice, Instr.sliceBounds, Sem.run_bind, run_underlying hu, run_tsz hsz]
              · have e1 : hh ≤ (m : Int) := by omega
                simp [execOp, ho, hv, hva, Instr.sliceAt, Instr.slice, Instr.sliceBounds, Instr.sliceBound, Sem.run_bind, run_underlying hu, run_tsz hsz, hz, asIntOf, hlh, e1]
              · have e1 : l ≤ (rows.length : Int) := by omega
                simp [execOp, ho, hv, hva, Instr.sliceAt, Instr.slice, Instr.sliceBounds, Instr.sliceBound, Sem.run_bind, run_underlying hu, run_tsz hsz, hy, asIntOf, hl0, e1]
              · have e1 : hh ≤ (m : Int) := by omega
                have e2 : 0 ≤ hh := by omega
                have e3 : l ≤ max hh 0 := by omega
                simp [execOp, ho, hv, hva, Instr.sliceAt, Instr.slice, Instr.sliceBounds, Instr.sliceBound, Sem.run_bind, run_underlying hu, run_tsz hsz, hy, hz, asIntOf, hl0, hlh, e1, e2, e3]
            · rcases hhv with ⟨rfl, rfl⟩ | ⟨z, kz, rfl, hz⟩
              · simp at hs
              · have e1 : hh ≤ (m : Int) := by omega
                have e2 : 0 ≤ hh := by omega
                have e3 : l ≤ max hh 0 := by omega
                have e4 : (m : Int) ≤ cap := by omega
                rcases hlv with ⟨rfl, rfl⟩ | ⟨y, ky, rfl, hy⟩
                · simp [execOp, ho, hv, hva, Instr.sliceAt, Instr.slice, Instr.sliceBounds, Instr.sliceBound, Sem.run_bind, run_underlying hu, run_tsz hsz, hz, hq, asIntOf, hlh, e1, e4, hmc]
                · simp [execOp, ho, hv, hva, Instr.sliceAt, Instr.slice, Instr.sliceBounds, Instr.sliceBound, Sem.run_bind, run_underlying hu, run_tsz hsz, hy, hz, hq, asIntOf, hl0, hlh, e1, e2, e3, e4, hmc]
          -- the result
          have hres : ∀ (own' : Own) (m : Nat), hh.toNat ≤ m → (∀ n, own' ≠ .id n) → (own' = .full → m = hh.toNat) → (∀ oa cap, v = .slice oa rows.length cap → (mx = none ∧ m = cap) ∨ (∃ q k, mx = some q ∧ a.eval q = .int k (m : Int) ∧ hi.isSome = true ∧ m ≤ cap)) →
              Yields E0 w0 Z lab d G F a w P o (.slice ((rows.take hh.toNat).drop l.toNat) nl own') := by
            intro own' m hhm hno hfl hm
            have hnid : NoId (.slice ((rows.take hh.toNat).drop l.toNat) nl own') := by
              rintro n ⟨y, hy, rows, nl, rfl⟩
              simp [parts] at hy
              exact hno n hy.2.2.symm
            cases hxr with
            | nil =>
              have hr0 := hrun none 0 m rfl (Nat.le_refl _) (hm none 0 rfl) hhm
              have hh0 : hh.toNat = 0 := by simp at hhr; omega
              have hm0 : m = 0 := by
                rcases hm none 0 rfl with ⟨_, h⟩ | ⟨_, _, _, _, _, h⟩ <;> omega
              have hl00 : l.toNat = 0 := by omega
              refine Yields.same h hd hr0 (.of_noId ?_ hnid)
              simp [hh0, hm0, hl00]
              exact .nil _
            | slice _ _ b off cap sz' val hlen' hsz' hfull hpl h1 h2 =>
              have hr0 := hrun (some ⟨b, off, none⟩) cap m rfl hlen' (hm _ _ rfl) hhm
              have hcell : ∀ i j, cellAt ((rows.take hh.toNat).drop l.toNat) i j = (if i < hh.toNat - l.toNat then cellAt rows (l.toNat + i) j else none) := by
                intro i j
                simp only [cellAt, List.getElem?_drop, List.getElem?_take]
                by_cases hi : i < hh.toNat - l.toNat
                · rw [if_pos (by omega), if_pos hi]
                · rw [if_neg (by omega), if_neg hi]; rfl
              have hm' : (if m = l.toNat then some (⟨b, off, none⟩ : Addr) else (some (⟨b, off, none⟩ : Addr)).map (·.add (l.toNat * sz))) = some ⟨b, if m = l.toNat then off else off + l.toNat * sz, none⟩ := by
                split
                · rfl
                · simp [add_none]
              rw [hm'] at hr0
              refine Yields.same h hd hr0 (.of_noId ?_ hnid)
              have hres := R1.slice (S := G.S) (E := G.E) ((rows.take hh.toNat).drop l.toNat) own' b (if m = l.toNat then off else off + l.toNat * sz) (m - l.toNat) sz (fun i j => val (l.toNat + i) j) (by rw [hlen]; omega)
                (fun r hr => hrows r (List.mem_of_mem_take (List.mem_of_mem_drop hr))) (fun hf => by rw [hlen, hfl hf])
                (fun i j x hx => by rw [hcell] at hx; split at hx <;> first | exact hpl _ _ _ hx | cases hx)
                (fun i j x hx => by
                  rw [hcell] at hx
                  split at hx
                  · rename_i hi
                    have := h1 _ _ _ hx
                    have hszeq : sz' = sz := by
                      have hlt : l.toNat + i < rows.length := by omega
                      rw [← hrows _ (List.getElem_mem hlt), ← hsz' _ (List.getElem_mem hlt)]
                    rw [if_neg (by omega)]
                    rw [hszeq, Nat.add_mul] at this
                    rw [show off + l.toNat * sz + (i * sz + j) = off + (l.toNat * sz + i * sz + j) by omega]
                    exact this
                  · cases hx)
                (fun i j x hx => by rw [hcell] at hx; split at hx <;> first | exact h2 _ _ _ hx | cases hx)
              rw [hlen] at hres
              exact hres
          split at hr
          · rename_i hmx
            have := Option.some.inj hr; subst this
            have hmx' : mx = none := by cases mx <;> simp_all
            obtain ⟨oa, cap, hva, hcap⟩ : ∃ oa cap, v = .slice oa rows.length cap ∧ rows.length ≤ cap := by
              cases hxr
              · exact ⟨none, 0, rfl, Nat.le_refl _⟩
              · exact ⟨_, _, rfl, ‹_›⟩
            refine hres .no cap (by omega) (by intro n h; cases h) (by intro h; cases h) (fun oa' cap' hva' => ?_)
            rw [hva] at hva'
            cases hva'
            exact .inl ⟨hmx', rfl⟩
          · rename_i mv hmx
            split at hr
            · rename_i hcond
              have := Option.some.inj hr; subst this
              cases mx with
              | none => cases hmx
              | some q =>
                have hmq : F.ev q = mv := Option.some.inj hmx
                obtain ⟨k, hk⟩ := int_opd (opd h q).rv (by rw [hmq]; exact hcond.1)
                refine hres .full hh.toNat (Nat.le_refl _) (by intro n h; cases h) (fun _ => rfl) (fun oa' cap' hva' => .inr ⟨q, k, rfl, by rw [hk]; congr 1; omega, by simpa using hcond.2, ?_⟩)
                obtain ⟨hcap⟩ : rows.length ≤ cap' ∨ False := by
                  rw [hva'] at hxr
                  cases hxr
                  · exact .inl (by simp)
                  · exact .inl ‹_›
                · omega
                · rename_i hF; exact hF.elim
            · cases hr
        · cases hr
    · cases hr
  · rename_i s hx
    split at hr
    · rename_i l hh hmx hst hl hhi
      split at hr
      · rename_i hc
        have := Option.some.inj hr; subst this
        obtain ⟨hl0, hlh, hhr⟩ := hc
        have hxr := (opd h x).rv
        rw [hx] at hxr
        have hxr : R1 G.S G.E (.at (.string s)) (a.eval x) := hxr
        have hlv := bnd_val h hl
        have hhv := bnd_val h hhi
        have hu := isStr_und hst
        have hmx' : mx = none := by cases mx <;> simp_all
        subst hmx'
        generalize hv : a.eval x = v at *
        cases hxr
        have hex : s.extract l.toNat hh.toNat = ⟨⟨(s.data.toList.drop l.toNat).take (hh.toNat - l.toNat)⟩⟩ := by
          have h1 : (s.extract l.toNat hh.toNat).data.toList = (s.data.toList.drop l.toNat).take (hh.toNat - l.toNat) := by simp
          cases hq : s.extract l.toNat hh.toNat with
          | mk dd => rw [hq] at h1; cases dd; simp at h1; rw [h1]
        refine Yields.same h hd (v := .string (s.extract l.toNat hh.toNat)) ?_ (by rw [hex]; exact .of_noId (.at _) (nid_at _))
        rcases hlv with ⟨rfl, rfl⟩ | ⟨y, ky, rfl, hy⟩ <;> rcases hhv with ⟨rfl, rfl⟩ | ⟨z, kz, rfl, hz⟩
        · simp [execOp, ho, hv, Instr.sliceAt, Instr.slice, Instr.sliceBounds, Sem.run_bind, run_underlying hu]
        · simp [execOp, ho, hv, Instr.sliceAt, Instr.slice, Instr.sliceBounds, Instr.sliceBound, Sem.run_bind, run_underlying hu, hz, asIntOf, hlh, hhr]
        · have e1 : l ≤ (s.size : Int) := by omega
          simp [execOp, ho, hv, Instr.sliceAt, Instr.slice, Instr.sliceBounds, Instr.sliceBound, Sem.run_bind, run_underlying hu, hy, asIntOf, hl0, e1]
        · have e2 : 0 ≤ hh := by omega
          have e3 : l ≤ max hh 0 := by omega
          simp [execOp, ho, hv, Instr.sliceAt, Instr.slice, Instr.sliceBounds, Instr.sliceBound, Sem.run_bind, run_underlying hu, hy, hz, asIntOf, hl0, hlh, hhr, e2, e3]
      · cases hr
    · cases hr
  · rename_i loc off len cap sz hx
    split at hr
    · rename_i e l hh he hl hhi hmx
      split at hr
      · rename_i hc
        have := Option.some.inj hr; subst this
        obtain ⟨hsz, hl0, hlh, hhr, hcap, hlc⟩ := hc
        have hxr := (opd h x).rv
        rw [hx] at hxr
        have hxr : R1 G.S G.E (.hs loc off len cap sz) (a.eval x) := hxr
        have hlv := bnd_val h hl
        have hhv := bnd_val h hhi
        have hu := tel_und he
        have hmx' : mx = none := by cases mx <;> simp_all
        subst hmx'
        generalize hv : a.eval x = v at *
        cases hxr with
        | hs _ _ _ _ _ b hb =>
          refine Yields.same h hd (v := .slice (some ⟨b, off + l.toNat * sz, none⟩) (hh.toNat - l.toNat) (cap - l.toNat)) ?_ (.of_noId (.hs _ _ _ _ _ _ hb) ?_)
          · have e0 : ¬ cap = l.toNat := by omega
            have e0' : ¬ cap = 0 := by omega
            rcases hlv with ⟨rfl, rfl⟩ | ⟨y, ky, rfl, hy⟩ <;> rcases hhv with ⟨rfl, rfl⟩ | ⟨z, kz, rfl, hz⟩
            · simp [execOp, ho, hv, Instr.sliceAt, Instr.slice, Instr.sliceBounds, Sem.run_bind, run_underlying hu, run_tsz hsz, e0', add_none]
            · have e1 : hh ≤ (cap : Int) := by omega
              simp [execOp, ho, hv, Instr.sliceAt, Instr.slice, Instr.sliceBounds, Instr.sliceBound, Sem.run_bind, run_underlying hu, run_tsz hsz, hz, asIntOf, hlh, e1, e0', add_none]
            · have e1 : l ≤ (len : Int) := by omega
              simp [execOp, ho, hv, Instr.sliceAt, Instr.slice, Instr.sliceBounds, Instr.sliceBound, Sem.run_bind, run_underlying hu, run_tsz hsz, hy, asIntOf, hl0, e1, e0, add_none]
            · have e1 : hh ≤ (cap : Int) := by omega
              have e2 : 0 ≤ hh := by omega
              have e3 : l ≤ max hh 0 := by omega
              simp [execOp, ho, hv, Instr.sliceAt, Instr.slice, Instr.sliceBounds, Instr.sliceBound, Sem.run_bind, run_underlying hu, run_tsz hsz, hy, hz, asIntOf, hl0, hlh, e1, e2, e3, e0, add_none]
          · rintro n ⟨y, hy, rows, nl, rfl⟩; simp [parts] at hy
      · cases hr
    · cases hr
  · cases hr
end
end Go.Proofs.V
