/- Append. -/
import Derived.Test.YtdgihbbekacgcaaDoorV12
namespace Go.Proofs.V
open Go Go.RowKit
set_option linter.unusedVariables false
set_option linter.unusedSimpArgs false

theorem growBy_le (n : Nat) : ∀ (r c : Nat), 256 ≤ c → c ≤ 2 * n → 256 ≤ n → Builtin.growBy n r c ≤ 2 * n
  | 0, c, _, h, _ => h
  | r + 1, c, h1, h2, h3 => by
    unfold Builtin.growBy
    split
    · exact h2
    · exact growBy_le n r _ (by omega) (by omega) h3
theorem next_le (n old : Nat) (h : old < n) : Builtin.nextslicecap n old ≤ 2 * n := by
  unfold Builtin.nextslicecap
  split
  · omega
  · split
    · omega
    · exact growBy_le n 4 old (by omega) (by omega) (by omega)

section
variable {E0 : Nat → Prop} {w0 : Ent} {Z : Nat → Prop} {G : Gh} {F : St} {a : Act} {w : World} {P : Program} {lab d : Nat}

/-- Cells of a slice, as they are loaded. -/
theorem load_rows {rows : List (List AV)} {sz b off : Nat} {val : Nat → Nat → Value} (hm : Mem G.S w) (hsz : ∀ r ∈ rows, r.length = sz) (hpos : 0 < sz) (hpl : ∀ i j x, cellAt rows i j = some x → x.plain = true)
    (hS : ∀ i j x, cellAt rows i j = some x → G.S ⟨b, off + (i * sz + j), none⟩ = some (val i j)) (hR : ∀ i j x, cellAt rows i j = some x → R1 G.S G.E x (val i j)) :
    ∃ us : Array Value, (loadCells ⟨b, off, none⟩ (rows.length * sz)).run P w = .ok us w ∧ RW G sz rows us := by
  have hcell : ∀ k, k < rows.length * sz → ∃ x, cellAt rows (k / sz) (k % sz) = some x := by
    intro k hk
    have h1 : k / sz < rows.length := Nat.div_lt_of_lt_mul (by rw [Nat.mul_comm]; exact hk)
    have h2 : k % sz < sz := Nat.mod_lt _ hpos
    refine ⟨(rows[k / sz])[k % sz]'(by rw [hsz _ (List.getElem_mem h1)]; exact h2), ?_⟩
    simp [cellAt, h1]
  refine ⟨((List.range (rows.length * sz)).map fun k => val (k / sz) (k % sz)).toArray, ?_, ?_⟩
  · refine run_loadCells w ⟨b, off, none⟩ (rows.length * sz) (fun k => val (k / sz) (k % sz)) (fun k hk => ?_)
    obtain ⟨x, hx⟩ := hcell k hk
    rw [add_none]
    have := hm _ _ (hS _ _ x hx)
    have e : k / sz * sz + k % sz = k := by rw [Nat.mul_comm]; exact Nat.div_add_mod k sz
    rw [e] at this
    exact this
  · refine ⟨by simp, hsz, hpl, fun i j x hx => ?_⟩
    have hlt := cellAt_lt hx hsz
    have hidx : i * sz + j < rows.length * sz := by
      have : (i + 1) * sz ≤ rows.length * sz := Nat.mul_le_mul_right _ hlt.1
      rw [Nat.add_mul] at this; omega
    refine ⟨val i j, ?_, hR i j x hx⟩
    have e1 : (i * sz + j) / sz = i := by
      rw [Nat.mul_comm, Nat.mul_add_div hpos, Nat.div_eq_of_lt hlt.2]; rfl
    have e2 : (i * sz + j) % sz = j := by rw [Nat.mul_comm, Nat.mul_add_mod, Nat.mod_eq_of_lt hlt.2]
    simp [hidx, e1, e2]

theorem rowsOf_cell {cells : List AV} {off len sz : Nat} {ys : List (List AV)} (h : rowsOf cells off len sz = some ys) : off + len * sz ≤ cells.length ∧ ys.length = len ∧ (∀ r ∈ ys, r.length = sz) ∧ ∀ i j x, cellAt ys i j = some x → i < len ∧ j < sz ∧ cells[off + (i * sz + j)]? = some x := by
  unfold rowsOf at h
  split at h
  · rename_i hle
    have := Option.some.inj h; subst this
    have hrow : ∀ i, i < len → ((cells.drop (off + i * sz)).take sz).length = sz := by
      intro i hi
      have : (i + 1) * sz ≤ len * sz := Nat.mul_le_mul_right _ hi
      rw [Nat.add_mul] at this
      simp; omega
    refine ⟨hle, by simp, fun r hr => ?_, fun i j x hx => ?_⟩
    · obtain ⟨i, hi, rfl⟩ := List.mem_map.1 hr
      exact hrow i (List.mem_range.1 hi)
    · unfold cellAt at hx
      obtain ⟨r, e1, e2⟩ := Option.bind_eq_some_iff.1 hx
      rw [List.getElem?_map] at e1
      simp only [Option.map_eq_some_iff] at e1
      obtain ⟨k, hk, rfl⟩ := e1
      have hik : i < len ∧ k = i := by
        have hlt : i < len := by
          have := (List.getElem?_eq_some_iff.1 hk).1
          simpa using this
        rw [List.getElem?_range hlt] at hk
        cases hk
        exact ⟨hlt, rfl⟩
      obtain ⟨hi, rfl⟩ := hik
      have hj : j < sz := by rw [← hrow k hi]; exact (List.getElem?_eq_some_iff.1 e2).1
      refine ⟨hi, hj, ?_⟩
      rw [List.getElem?_take, if_pos hj, List.getElem?_drop, Nat.add_assoc] at e2
      exact e2
  · cases h

/-- What is appended, as it is loaded. -/
theorem src_rows (h : Inv E0 w0 Z G F a w) {x : Operand} {xt : Option TypeId} {ys : List (List AV)} {sz : Nat} (hsrc : srcRows P F xt (F.ev x) = some ys) (hsz : ∀ r ∈ ys, r.length = sz) (hpos : 0 < sz) :
    (Builtin.lenOf (a.eval x)).run P w = .ok ys.length w ∧ (∃ us, (Builtin.firstCells sz ys.length (a.eval x)).run P w = .ok us w ∧ RW G sz ys us) ∧ ∃ t, xt = some t ∧ (P.underlying t = some .string ∨ ∃ e, P.underlying t = some (.slice e)) := by
  have hxr := (opd h x).rv
  generalize hv : a.eval x = v at *
  unfold srcRows at hsrc
  split at hsrc
  · rename_i loc off len cap sz' hx
    split at hsrc
    · rename_i hxt
      obtain ⟨cells, hcells, hrows⟩ := Option.bind_eq_some_iff.1 hsrc
      rw [hx] at hxr
      have hxr : R1 G.S G.E (.hs loc off len cap sz') v := hxr
      obtain ⟨e, he⟩ := Option.isSome_iff_exists.1 hxt
      obtain ⟨t, ht, he⟩ := Option.bind_eq_some_iff.1 he
      obtain ⟨q1, q2, q3, q4⟩ := rowsOf_cell hrows
      obtain ⟨b', vs, g1, _, _, ⟨⟨ty, hheap⟩, hvs, hpl, hR, _⟩⟩ := h.obj loc cells hcells
      cases hxr with
      | hs _ _ _ _ _ b hb =>
        have hbb : b' = b := by rw [hb] at g1; exact (Option.some.inj g1).symm
        subst hbb
        refine ⟨by simp [Builtin.lenOf, q2], ?_, t, ht, .inr ⟨e, tel_und he⟩⟩
        cases hys : ys with
        | nil => exact ⟨#[], by simp [Builtin.firstCells, loadCells, loadCellsFrom], by simp, by simp, by intro i j x h; simp [cellAt] at h, by intro i j x h; simp [cellAt] at h⟩
        | cons r rs =>
          have hss : sz' = sz := by rw [← q3 r (by rw [hys]; simp), hsz r (by rw [hys]; simp)]
          subst hss
          rw [← hys]
          refine ⟨((List.range (ys.length * sz')).map fun k => vs.getD (off + k) Go.undef).toArray, ?_, by simp, q3, fun i j x hx => ?_, fun i j x hx => ?_⟩
          · refine run_loadCells w ⟨b', off, none⟩ (ys.length * sz') (fun k => vs.getD (off + k) Go.undef) (fun k hk => ?_)
            rw [add_none]
            rw [q2] at hk
            have : off + k < vs.size := by rw [hvs]; omega
            simp [World.cell?, hheap, Array.getD, this]
          · exact hpl x (List.mem_of_getElem? (q4 i j x hx).2.2)
          · obtain ⟨k1, k2, k3⟩ := q4 i j x hx
            have hidx : i * sz' + j < ys.length * sz' := by
              have : (i + 1) * sz' ≤ len * sz' := Nat.mul_le_mul_right _ k1
              rw [Nat.add_mul] at this; rw [q2]; omega
            refine ⟨vs.getD (off + (i * sz' + j)) Go.undef, by simp [hidx], ?_⟩
            have hlt : off + (i * sz' + j) < vs.size := by rw [hvs]; exact (List.getElem?_eq_some_iff.1 k3).1
            exact hR _ _ _ k3 (by simp [Array.getD, hlt])
    · cases hsrc
  · rename_i rows nl own hx
    split at hsrc
    · rename_i hxt
      have := Option.some.inj hsrc; subst this
      rw [hx] at hxr
      have hxr : R1 G.S G.E (.slice rows nl own) v := hxr
      obtain ⟨e, he⟩ := Option.isSome_iff_exists.1 hxt
      obtain ⟨t, ht, he⟩ := Option.bind_eq_some_iff.1 he
      refine ⟨?_, ?_, t, ht, .inr ⟨e, tel_und he⟩⟩
      · cases hxr <;> rfl
      · cases hxr with
        | nil => exact ⟨#[], rfl, by simp, by simp, by intro i j x h; simp [cellAt] at h, by intro i j x h; simp [cellAt] at h⟩
        | slice _ _ b off cap sz' val hlen hall hfull hpl h1 h2 =>
          cases rows with
          | nil => exact ⟨#[], by simp [Builtin.firstCells, loadCells, loadCellsFrom], by simp, by simp, by intro i j x h; simp [cellAt] at h, by intro i j x h; simp [cellAt] at h⟩
          | cons r rs =>
            have hss : sz' = sz := by rw [← hall r (List.mem_cons_self ..), hsz r (List.mem_cons_self ..)]
            subst hss
            exact load_rows h.mem hsz hpos hpl h1 h2
    · cases hsrc
  · rename_i b hx
    split at hsrc
    · rename_i hxt
      have := Option.some.inj hsrc; subst this
      rw [hx] at hxr
      have hxr : R1 G.S G.E (.at (.string b)) v := hxr
      cases hxr
      simp only [Option.map_eq_some_iff] at hxt
      obtain ⟨t, ht, hst⟩ := hxt
      have hbl : b.data.toList.length = b.size := Array.length_toList (xs := b.data)
      refine ⟨?_, ?_, t, ht, .inl (isStr_und hst)⟩
      · simp [Builtin.lenOf]
      · have hex : (b.extract 0 b.size) = b := by
          have : (b.extract 0 b.size).data.toList = b.data.toList := by simp
          cases hq : b.extract 0 b.size with
          | mk dd =>
            rw [hq] at this
            cases b
            congr 1
            exact Array.ext' this
        refine ⟨b.data.map fun c => .int .u8 c.toNat, ?_, ?_⟩
        · simp only [Builtin.firstCells, List.length_map, hbl, hex, Sem.run_pure]
        · have hsz1 : b.data.toList ≠ [] → sz = 1 := by
            intro hne
            obtain ⟨c, hc⟩ := List.exists_mem_of_ne_nil _ hne
            exact (hsz (rowOfByte c) (List.mem_map.2 ⟨c, hc, rfl⟩)).symm
          have hcell : ∀ i j x, cellAt (b.data.toList.map rowOfByte) i j = some x → j = 0 ∧ ∃ c, b.data.toList[i]? = some c ∧ x = .at (.int .u8 c.toNat) := by
            intro i j x hx
            unfold cellAt at hx
            obtain ⟨r, e1, e2⟩ := Option.bind_eq_some_iff.1 hx
            rw [List.getElem?_map] at e1
            simp only [Option.map_eq_some_iff] at e1
            obtain ⟨c, hc, rfl⟩ := e1
            unfold rowOfByte at e2
            cases j with
            | zero => simp at e2; exact ⟨rfl, c, hc, e2.symm⟩
            | succ j => simp at e2
          refine ⟨?_, hsz, fun i j x hx => ?_, fun i j x hx => ?_⟩
          · by_cases hne : b.data.toList = []
            · have : b.data = #[] := by simpa using hne
              simp [this]
            · rw [hsz1 hne]; simp
          · obtain ⟨_, c, _, rfl⟩ := hcell i j x hx; rfl
          · obtain ⟨rfl, c, hc, rfl⟩ := hcell i j x hx
            have hne : b.data.toList ≠ [] := fun h0 => by rw [h0] at hc; simp at hc
            rw [hsz1 hne]
            have hc' : b.data[i]? = some c := by simpa using hc
            exact ⟨.int .u8 c.toNat, by simp [hc'], .at _⟩
    · cases hsrc
  · cases hsrc

theorem RW.append {sz : Nat} {xs ys : List (List AV)} {us vs : Array Value} (h1 : RW G sz xs us) (h2 : RW G sz ys vs) : RW G sz (xs ++ ys) (us ++ vs) := by
  have hcell : ∀ i j x, cellAt (xs ++ ys) i j = some x → (i < xs.length ∧ cellAt xs i j = some x) ∨ (xs.length ≤ i ∧ cellAt ys (i - xs.length) j = some x) := by
    intro i j x hx
    unfold cellAt at *
    by_cases hi : i < xs.length
    · rw [List.getElem?_append_left hi] at hx; exact .inl ⟨hi, hx⟩
    · rw [List.getElem?_append_right (by omega)] at hx; exact .inr ⟨by omega, hx⟩
  refine ⟨by simp [h1.1, h2.1, Nat.add_mul], ?_, ?_, ?_⟩
  · intro r hr
    rcases List.mem_append.1 hr with hr | hr
    · exact h1.2.1 r hr
    · exact h2.2.1 r hr
  · intro i j x hx
    rcases hcell i j x hx with ⟨_, hx⟩ | ⟨_, hx⟩
    · exact h1.2.2.1 _ _ _ hx
    · exact h2.2.2.1 _ _ _ hx
  · intro i j x hx
    rcases hcell i j x hx with ⟨hi, hx⟩ | ⟨hi, hx⟩
    · obtain ⟨v, e1, e2⟩ := h1.2.2.2 _ _ _ hx
      have hlt : i * sz + j < us.size := (Array.getElem?_eq_some_iff.1 e1).1
      exact ⟨v, by rw [Array.getElem?_append_left hlt]; exact e1, e2⟩
    · obtain ⟨v, e1, e2⟩ := h2.2.2.2 _ _ _ hx
      have hge : us.size ≤ i * sz + j := by
        rw [h1.1]
        have : xs.length * sz ≤ i * sz := Nat.mul_le_mul_right _ hi
        omega
      refine ⟨v, ?_, e2⟩
      rw [Array.getElem?_append_right hge, h1.1, show i * sz + j - xs.length * sz = (i - xs.length) * sz + j by
        rw [Nat.sub_mul]
        have : xs.length * sz ≤ i * sz := Nat.mul_le_mul_right _ hi
        omega]
      exact e1

/-- A slice that is grown takes the place of its elder. -/
theorem inv_grown (h : Inv E0 w0 Z G F a w) (hz : ∀ n, Z1 lab n → ¬ Z n) (hd : d < F.n) {G' : Gh} {w' : World} {b : Nat} {al' : Nat → Bool} {rows : List (List AV)} {v : Value}
    (hS : ∀ ad v, G.S ad = some v → G'.S ad = some v) (hm : Mem G'.S w') (hB : G'.B = G.B) (hE : G'.E = G.E) (hbel : Bel E0 w0 w') (hbb : w0.heap.size ≤ b) (hρ : ∀ m, m ≠ lab → G'.ρ m = G.ρ m)
    (hheap : ∀ k, k < w.heap.size → k ≠ b → w'.heap[k]? = w.heap[k]?) (hSn : ∀ ad : Addr, ad.block < w.heap.size → ad.block ≠ b → G.S ad = none → G'.S ad = none) (hu : ∀ k, k ≠ b → G'.u k = G.u k) (hub : G'.u b = some (.row lab))
    (hal : ∀ m, al' m = true → m = lab ∨ (F.al m = true ∧ (G.ρ m).b ≠ b)) (hbo : w.heap.size ≤ b ∨ ∃ n, G.u b = some (.row n))
    (hrow : w0.heap.size ≤ (G'.ρ lab).b ∧ G'.u (G'.ρ lab).b = some (.row lab) ∧ (∃ vs ty, w'.heap[(G'.ρ lab).b]? = some (.cells vs ty (0, 0)) ∧ vs.size = (G'.ρ lab).cap * (G'.ρ lab).sz) ∧ (0 < (G'.ρ lab).len ∧ (G'.ρ lab).len ≤ (G'.ρ lab).cap) ∧ ∀ o, (G'.ρ lab).len * (G'.ρ lab).sz ≤ o → G'.S ⟨(G'.ρ lab).b, o, none⟩ = none)
    (hlive : ∀ k, (G'.u k).isSome = true → k < w'.heap.size) (hx : R1 G'.S G'.E (.slice rows false (.id lab)) v)
    (hv : v = .slice (some ⟨(G'.ρ lab).b, 0, none⟩) rows.length (G'.ρ lab).cap ∧ rows.length = (G'.ρ lab).len ∧ ∀ r ∈ rows, r.length = (G'.ρ lab).sz) :
    Inv E0 w0 (fun n => Z n ∨ Z1 lab n) G' { F with t := upd F.t d (.slice rows false (.id lab)), al := al' } (a.put (some d) v) w' := by
  have hl : Z1 lab lab := ⟨Nat.le_refl _, by omega⟩
  have hR : ∀ {x : AV} {v : Value}, R1 G.S G.E x v → R1 G'.S G'.E x v := fun hr => R1.mono hS (fun l b hb => by rw [hE]; exact hb) hr
  have hRV : ∀ {x : AV} {v : Value}, RV G x v → RV G' x v := by
    intro x v hr
    cases x with
    | fp p q r => obtain ⟨k, h1, h2⟩ := hr; exact ⟨k, by rw [hB]; exact h1, h2⟩
    | box p q => obtain ⟨k, h1, h2⟩ := hr; exact ⟨k, by rw [hB]; exact h1, h2⟩
    | _ => exact hR hr
  have hCl1 : ∀ {y : AV} {u : Value}, (∀ rows nl, y ≠ .slice rows nl (.id lab)) → Cl1 G F.al y u → Cl1 G' al' y u := by
    intro y u hne hc rows nl n he ha
    rcases hal n ha with rfl | ⟨h1, h2⟩
    · exact absurd he (hne rows nl)
    · have hnl : n ≠ lab := fun e => hz lab hl (e ▸ h.zal n h1)
      rw [hρ n hnl]
      exact hc rows nl n he h1
  have hother : ∀ {b' : Nat} {tg : Tg}, G.u b' = some tg → (∀ n, tg ≠ .row n) → b' ≠ b := by
    rintro b' tg h1 h2 rfl
    rcases hbo with h3 | ⟨n, h3⟩
    · have := h.live b' (by rw [h1]; rfl); omega
    · rw [h1] at h3; exact h2 n (Option.some.inj h3)
  have hHolds : ∀ {b' : Nat} {cs : List AV} {vs : Array Value}, b' < w.heap.size → b' ≠ b → Holds1 G w b' cs vs → Holds1 G' w' b' cs vs := by
    rintro b' cs vs hlt hne ⟨⟨ty, q1⟩, q2, q3, q4, q5⟩
    exact ⟨⟨ty, (hheap b' hlt hne).trans q1⟩, q2, q3, fun j x v hx hv => hR (q4 j x v hx hv), fun ad ha => hSn ad (by rw [ha]; exact hlt) (by rw [ha]; exact hne) (q5 ad ha)⟩
  exact {
    nsz := by simp [Act.put]; exact h.nsz
    df := by simp [Act.put]; exact h.df
    slot := fun i => by
      rw [getD_put (by rw [h.nsz]; exact hd)]
      simp only [upd_apply]
      split
      · exact hx
      · exact hRV (h.slot i)
    cl := fun i hb' => by
      rw [getD_put (by rw [h.nsz]; exact hd)]
      simp only [upd_apply] at hb' ⊢
      split
      · intro j y u hy hu'
        have hvp : vparts v = [v] := by rw [hv.1]; rfl
        rw [hvp] at hu'
        cases j with
        | succ j => simp [parts] at hy
        | zero =>
          simp [parts] at hy hu'
          subst hy; subst hu'
          intro rows' nl n he ha
          cases he
          exact ⟨hv.1, rfl, hv.2.1, hv.2.2⟩
      · rename_i hi
        intro j y u hy hu'
        refine hCl1 ?_ (h.cl i (by simpa only [hi, if_false] using hb') j y u hy hu')
        rintro rows nl rfl
        exact hz lab hl (h.ids i lab ⟨_, List.mem_of_getElem? hy, rows, nl, rfl⟩)
    ids := fun i m => by
      simp only [upd_apply]
      split
      · rintro ⟨y, hy, rows', nl, rfl⟩
        simp [parts] at hy
        rw [hy.2.2]
        exact .inr hl
      · exact fun hi => .inl (h.ids i m hi)
    mem := hm
    bel := hbel
    rel := ⟨fun ad v hv => hS _ _ (h.rel.1 ad v hv), fun ad h0 hb => hSn ad (Nat.lt_of_lt_of_le hb h.bel.size) (by omega) (h.rel.2.1 ad h0 hb), fun l b hb => by rw [hE]; exact h.rel.2.2.1 l b hb, fun l b h0 hb => h.rel.2.2.2.1 l b h0 (by rw [← hE]; exact hb), fun l b hb => h.rel.2.2.2.2 l b (by rw [← hE]; exact hb)⟩
    box := fun i gg cs hi => by
      simp only [upd_apply] at hi
      split at hi
      · cases hi
      · obtain ⟨b', vs, q1, q2, q3, q4, q5⟩ := h.box i gg cs hi
        have hne := hother q3 (by intro n hn; cases hn)
        have hlt := h.live b' (by rw [q3]; rfl)
        refine ⟨b', vs, by rw [hB]; exact q1, q2, (hu b' hne).trans q3, hHolds hlt hne q4, fun j x v hx hv => hCl1 ?_ (q5 j x v hx hv)⟩
        rintro rows nl rfl
        exact hz lab hl (h.ids i lab ⟨_, by rw [hi]; exact List.mem_of_getElem? hx, rows, nl, rfl⟩)
    row := fun m ha => by
      rcases hal m ha with rfl | ⟨h1, h2⟩
      · exact hrow
      · have hnl : m ≠ lab := fun e => hz lab hl (e ▸ h.zal m h1)
        rw [hρ m hnl]
        obtain ⟨q1, q2, ⟨vs, ty, q3, q3'⟩, q4, q5⟩ := h.row m h1
        have hlt := h.live _ (by rw [q2]; rfl)
        exact ⟨q1, (hu _ h2).trans q2, ⟨vs, ty, (hheap _ hlt h2).trans q3, q3'⟩, q4, fun o ho => hSn _ hlt h2 (q5 o ho)⟩
    obj := fun l cs hlc => by
      obtain ⟨b', vs, q1, q2, q3, q4⟩ := h.obj l cs hlc
      have hne := hother q3 (by intro n hn; cases hn)
      have hlt := h.live b' (by rw [q3]; rfl)
      exact ⟨b', vs, by rw [hE]; exact q1, q2, (hu b' hne).trans q3, hHolds hlt hne q4⟩
    zB := fun g b' hb' => .inl (h.zB g b' (by rw [← hB]; exact hb'))
    zal := fun m ha => by
      rcases hal m ha with rfl | ⟨h1, _⟩
      · exact .inr hl
      · exact .inl (h.zal m h1)
    live := hlive }
end
end Go.Proofs.V
