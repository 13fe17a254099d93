/- Append does what is reckoned. -/
import Derived.Test.YtdgihbbekacgcaaDoorV14
namespace Go.Proofs.V
open Go Go.RowKit
set_option linter.unusedVariables false
set_option linter.unusedSimpArgs false

section
variable {E0 : Nat → Prop} {w0 : Ent} {Z : Nat → Prop} {G : Gh} {F : St} {a : Act} {w : World} {P : Program} {lab d : Nat}

theorem RW.one {sz : Nat} {rows : List (List AV)} {us : Array Value} (h : RW G sz rows us) (hpos : 0 < sz) : ∀ u ∈ us.toList, Value.one u = true := by
  intro u hu
  obtain ⟨k, hk⟩ := List.getElem?_of_mem hu
  have hk' : us[k]? = some u := by simpa using hk
  have hlt : k < rows.length * sz := by rw [← h.1]; exact (Array.getElem?_eq_some_iff.1 hk').1
  have h1 : k / sz < rows.length := Nat.div_lt_of_lt_mul (by rw [Nat.mul_comm]; exact hlt)
  have h2 : k % sz < sz := Nat.mod_lt _ hpos
  have hx : cellAt rows (k / sz) (k % sz) = some ((rows[k / sz])[k % sz]'(by rw [h.2.1 _ (List.getElem_mem h1)]; exact h2)) := by simp [cellAt, h1]
  obtain ⟨v, e1, e2⟩ := h.2.2.2 _ _ _ hx
  have e : k / sz * sz + k % sz = k := by rw [Nat.mul_comm]; exact Nat.div_add_mod k sz
  rw [e, hk'] at e1
  rw [Option.some.inj e1]
  exact R1.one e2 (h.2.2.1 _ _ _ hx)

theorem append_sound (h : Inv E0 w0 Z G F a w) (hz : ∀ n, Z1 lab n → ¬ Z n) (hd : d < F.n) {o : Oper} {s x : Operand} {ts : Array TypeId} (ho : o.op = .call { callee := .builtin .append, args := #[s, x], argTypes := ts }) {t : TypeId} (ht : ts[0]? = some t)
    {v : AV} {al' : Nat → Bool} (hv : appendA P F lab t (F.ev s) (F.ev x) ts[1]? = some (v, al')) :
    ∃ r w' G', (execOp a.eval o).run P w = .ok (.value r) w' ∧ Inv E0 w0 (fun n => Z n ∨ Z1 lab n) G' { F with t := upd F.t d v, al := al' } (a.put (some d) r) w' := by
  unfold appendA at hv
  split at hv
  · rename_i e rows nl own he hs
    split at hv
    · rename_i sz by_ hsz hby
      split at hv
      · rename_i ys hys
        split at hv
        · rename_i hc
          simp only [Bool.and_eq_true, decide_eq_true_eq, beq_iff_eq, List.all_eq_true] at hc
          obtain ⟨⟨⟨⟨⟨hall, hpos⟩, hbound⟩, hmax⟩, hby0⟩, htz⟩ := hc
          have hall1 : ∀ r ∈ rows, r.length = sz := fun r hr => hall r (List.mem_append.2 (.inl hr))
          have hall2 : ∀ r ∈ ys, r.length = sz := fun r hr => hall r (List.mem_append.2 (.inr hr))
          simp only [Option.map_eq_some_iff] at htz
          obtain ⟨zc, hzc, hzl⟩ := htz
          obtain ⟨ii, zz, hi, hiz, hzz, _, hzl2⟩ := tzero_info hzc
          have hzsz : zz.cells.size = sz := by rw [← hzl2, hzl]
          obtain ⟨hlen, ⟨us, hus, hRWy⟩, xt, hxt, hxu⟩ := src_rows h hys hall2 hpos
          have hsr : R1 G.S G.E (.slice rows nl own) (a.eval s) := by
            have hsr0 := (opd h s).rv
            rw [hs] at hsr0
            exact hsr0
          have hu := tel_und he
          -- the way that grows
          have grow : ∀ al2 : Nat → Bool, (∀ m, al2 m = true → m = lab ∨ F.al m = true) → 0 < ys.length → ∀ base cap, a.eval s = .slice base rows.length cap → ¬ rows.length + ys.length ≤ cap →
              ∃ r w' G', (execOp a.eval o).run P w = .ok (.value r) w' ∧ Inv E0 w0 (fun n => Z n ∨ Z1 lab n) G' { F with t := upd F.t d (.slice (rows ++ ys) false (.id lab)), al := al2 } (a.put (some d) r) w' := by
            intro al2 hal hpy base cap hbase hroom
            obtain ⟨base', cap', hb', hle, us0, hus0, hRW0⟩ := base_rows (P := P) (w := w.drew) (mem_drew h.mem) hsr hall1 hpos
            rw [hbase] at hb'
            cases hb'
            obtain ⟨_, ⟨us', hus', hRWy'⟩, _⟩ := src_rows (P := P) (w := w.drew) (F := F) (a := a) (x := x) (xt := ts[1]?) (ys := ys) (sz := sz) (E0 := E0) (w0 := w0) (Z := Z) (G := G) (by
              exact { h with mem := mem_drew h.mem, bel := h.bel.trans ⟨rfl, rfl, rfl, Nat.le_refl _, fun _ _ _ => rfl⟩ }) hys hall2 hpos
            obtain ⟨c, rest, hc1, hc2, hrun⟩ := append_grow (P := P) (w := w) (type := o.type) (base := base) (cap := cap) (xv := a.eval x) (us0 := us0) (us := us') ht hxt hu hsz hby hxu hlen (fun w' hw' => by subst hw'; exact hus') (fun w' hw' => by subst hw'; rw [hbase] at hus0; exact hus0) hroom hbound hmax hby0 hi hiz hzsz
            rw [← hbase] at hrun
            obtain ⟨G', hG⟩ := grown_new (d := d) h hz hd (rest := rest) (c := c) (e := e) (al' := al2) (hRW0.append hRWy') (by simp; omega) (by simpa using hc1) (by simpa using hc2) hal
            have hl2 : (rows ++ ys).length = rows.length + ys.length := by simp
            rw [hl2] at hG
            exact ⟨_, _, G', append_op ho hrun, hG⟩
          split at hv
          · -- no spare room
            have hcap : ∃ base, a.eval s = .slice base rows.length rows.length := by
              generalize a.eval s = q at *
              cases hsr with
              | nil => exact ⟨none, rfl⟩
              | slice _ _ b off cap sz' val hle hall' hfull hpl h1 h2 => exact ⟨_, by rw [hfull rfl]⟩
            obtain ⟨base, hbase⟩ := hcap
            split at hv
            · rename_i hemp
              have := Option.some.inj hv; cases this
              have hy0 : ys = [] := by simpa using hemp
              subst hy0
              have hrun : (Builtin.append_ ts o.type #[a.eval s, a.eval x]).run P w = .ok (a.eval s) w := by
                have hus0 : us = #[] := by have := hRWy.1; simpa using this
                subst hus0
                have := append_room (P := P) (w := w) (type := o.type) (base := base) (len := rows.length) (cap := rows.length) (xv := a.eval x) ht hxt hu hsz hxu hlen hus (by simp) (w' := w) (fun _ _ => rfl) (fun _ => rfl)
                rw [← hbase] at this
                simpa [hbase] using this
              refine ⟨_, _, G, append_op ho hrun, ?_⟩
              have hop := opd h s
              exact (h.set hd hop.nb hop.rv hop.cl hop.ids).zmono fun n hn => .inl hn
            · rename_i hne
              have := Option.some.inj hv; cases this
              have hpy : 0 < ys.length := by
                cases ys with
                | nil => simp at hne
                | cons y ys => simp
              exact grow (upd F.al lab true) (fun m hm => by
                simp only [upd_apply] at hm
                split at hm
                · exact .inl ‹_›
                · exact .inr hm) hpy base rows.length hbase (by omega)
          · -- a row of the frame's own
            rename_i n
            split at hv
            · rename_i hal
              obtain ⟨hbase, hnl, hlenr, hszr⟩ := tmp_slice hs h hal
              split at hv
              · rename_i hemp
                have := Option.some.inj hv; cases this
                have hy0 : ys = [] := by simpa using hemp
                subst hy0
                have hle : rows.length ≤ (G.ρ n).cap := by rw [hlenr]; exact (h.row n hal).2.2.2.1.2
                have hrun : (Builtin.append_ ts o.type #[a.eval s, a.eval x]).run P w = .ok (a.eval s) w := by
                  have hus0 : us = #[] := by have := hRWy.1; simpa using this
                  subst hus0
                  have := append_room (P := P) (w := w) (type := o.type) (base := some ⟨(G.ρ n).b, 0, none⟩) (len := rows.length) (cap := (G.ρ n).cap) (xv := a.eval x) ht hxt hu hsz hxu hlen hus (by simpa using hle) (w' := w) (fun _ _ => rfl) (fun _ => rfl)
                  rw [← hbase] at this
                  simpa [hbase] using this
                refine ⟨_, _, G, append_op ho hrun, ?_⟩
                have hop := opd h s
                exact (h.set hd hop.nb hop.rv hop.cl hop.ids).zmono fun n hn => .inl hn
              · rename_i hne
                have := Option.some.inj hv; cases this
                have hpy : 0 < ys.length := by
                  cases ys with
                  | nil => simp at hne
                  | cons y ys => simp
                obtain ⟨hr1, hr2, ⟨vs, ty, hr3, hr3'⟩, hr4, hr5⟩ := h.row n hal
                have hal2 : ∀ m, upd (upd F.al n false) lab true m = true → m = lab ∨ (F.al m = true ∧ m ≠ n) := by
                  intro m hm
                  simp only [upd_apply] at hm
                  split at hm
                  · exact .inl ‹_›
                  · split at hm
                    · cases hm
                    · exact .inr ⟨hm, ‹_›⟩
                by_cases hroom : rows.length + ys.length ≤ (G.ρ n).cap
                · -- in place
                  have hss : sz = (G.ρ n).sz := by
                    cases rows with
                    | nil => have := hr4.1; rw [← hlenr] at this; simp at this
                    | cons r rs => rw [← hall1 r (List.mem_cons_self ..), hszr r (List.mem_cons_self ..)]
                  · have hfit : rows.length * sz + 0 + us.toList.length ≤ vs.size := by
                      rw [hr3', ← hss]
                      have h1 : us.toList.length = ys.length * sz := by rw [Array.length_toList]; exact hRWy.1
                      rw [h1, Nat.add_zero, ← Nat.add_mul]
                      exact Nat.mul_le_mul_right _ hroom
                    obtain ⟨w', vs', e1, e2, e3, e4⟩ := storeCells_run (P := P) (b := (G.ρ n).b) (off := rows.length * sz) (ty := ty) us.toList 0 vs w hr3 hfit (hRWy.one hpos)
                    have hrun : (Builtin.append_ ts o.type #[a.eval s, a.eval x]).run P w = .ok (.slice (some ⟨(G.ρ n).b, 0, none⟩) (rows.length + ys.length) (G.ρ n).cap) w' := by
                      have := append_room (P := P) (w := w) (type := o.type) (base := some ⟨(G.ρ n).b, 0, none⟩) (len := rows.length) (cap := (G.ρ n).cap) (xv := a.eval x) ht hxt hu hsz hxu hlen hus hroom (w' := w') (fun a' ha' => by
                        cases ha'
                        rw [add_none, Nat.zero_add]
                        exact e1) (fun h0 => by cases h0)
                      rw [← hbase] at this
                      exact this
                    let G' : Gh := { G with S := fun ad => if ad.block = (G.ρ n).b ∧ ad.spot = none ∧ rows.length * sz ≤ ad.off ∧ ad.off < (rows.length + ys.length) * sz then vs'[ad.off]? else G.S ad, u := fun k => if k = (G.ρ n).b then some (.row lab) else G.u k, ρ := fun m => if m = lab then ⟨(G.ρ n).b, rows.length + ys.length, (G.ρ n).cap, sz⟩ else G.ρ m }
                    have hρl : G'.ρ lab = ⟨(G.ρ n).b, rows.length + ys.length, (G.ρ n).cap, sz⟩ := by simp [G']
                    have hblt := h.live _ (by rw [hr2]; rfl)
                    have hSnone : ∀ ad : Addr, ad.block = (G.ρ n).b → ad.spot = none → rows.length * sz ≤ ad.off → G.S ad = none := by
                      rintro ⟨b, off, sp⟩ rfl rfl hoff
                      exact hr5 off (by rw [← hlenr, ← hss]; exact hoff)
                    have hS : ∀ ad v, G.S ad = some v → G'.S ad = some v := fun ad v hv => by
                      simp only [G']
                      rw [if_neg (by rintro ⟨q1, q2, q3, _⟩; rw [hSnone ad q1 q2 q3] at hv; cases hv)]
                      exact hv
                    have hl2 : (rows ++ ys).length = rows.length + ys.length := by simp
                    refine ⟨_, w', G', append_op ho hrun, ?_⟩
                    refine inv_grown (G' := G') (b := (G.ρ n).b) h hz hd hS ?_ rfl rfl (e2.bel (.inl hr1) h.bel) hr1 (fun m hm => by simp only [G']; rw [if_neg hm]) (fun k _ hk => e2.other k hk) (fun ad _ q2 q3 => by simp only [G']; rw [if_neg (by rintro ⟨q, _⟩; exact q2 q)]; exact q3) (fun k hk => by simp only [G']; rw [if_neg hk]) (by simp [G']) (fun m hm => ?_) (.inr ⟨n, hr2⟩) ?_ (fun k hk => ?_) ?_ ?_
                    · intro ad u hau
                      simp only [G'] at hau
                      split at hau
                      · rename_i hq
                        obtain ⟨b, off, sp⟩ := ad
                        obtain ⟨rfl, rfl, q3, q4⟩ := hq
                        simp only [World.cell?, e2.at_]
                        exact hau
                      · rename_i hq
                        by_cases hb : ad.block = (G.ρ n).b
                        · have hc := h.mem ad u hau
                          obtain ⟨b, off, sp⟩ := ad
                          simp only at hb
                          subst hb
                          have hsp : sp = none := by
                            cases sp with
                            | none => rfl
                            | some q => simp [World.cell?, hr3] at hc
                          subst hsp
                          have hoff : off < rows.length * sz := by
                            rcases Nat.lt_or_ge off (rows.length * sz) with h1 | h1
                            · exact h1
                            · rw [hSnone _ rfl rfl h1] at hau; cases hau
                          simp only [World.cell?, hr3, Option.isSome_none, Bool.false_eq_true, if_false] at hc
                          simp only [World.cell?, e2.at_, Option.isSome_none, Bool.false_eq_true, if_false]
                          rw [e4, if_neg (by omega)]
                          exact hc
                        · rw [World.cell?_of_block (w := w) (e2.other _ hb)]
                          exact h.mem ad u hau
                    · rcases hal2 m hm with h1 | ⟨h1, h2⟩
                      · exact .inl h1
                      · refine .inr ⟨h1, fun hb => ?_⟩
                        obtain ⟨_, q2, _⟩ := h.row m h1
                        rw [hb, hr2] at q2
                        injection q2 with q2
                        injection q2 with q2
                        exact h2 q2.symm
                    · rw [hρl]
                      refine ⟨hr1, by simp [G'], ⟨vs', ty, e2.at_, by rw [e3, hr3', hss]⟩, ⟨by show 0 < rows.length + ys.length; omega, hroom⟩, fun off hoff => ?_⟩
                      have hoff : (rows.length + ys.length) * sz ≤ off := hoff
                      simp only [G']
                      rw [if_neg (by rintro ⟨_, _, _, q⟩; omega)]
                      refine hr5 off ?_
                      rw [← hlenr, ← hss]
                      have : rows.length * sz ≤ (rows.length + ys.length) * sz := Nat.mul_le_mul_right _ (Nat.le_add_right _ _)
                      omega
                    · simp only [G'] at hk
                      rw [e2.size]
                      split at hk
                      · rename_i hkb; rw [hkb]; exact hblt
                      · exact h.live k hk
                    · rw [← hl2]
                      have hcell : ∀ i j y, cellAt (rows ++ ys) i j = some y → (i < rows.length ∧ cellAt rows i j = some y) ∨ (rows.length ≤ i ∧ cellAt ys (i - rows.length) j = some y) := by
                        intro i j y hy
                        unfold cellAt at *
                        by_cases hi : i < rows.length
                        · rw [List.getElem?_append_left hi] at hy; exact .inl ⟨hi, hy⟩
                        · rw [List.getElem?_append_right (by omega)] at hy; exact .inr ⟨by omega, hy⟩
                      -- the elder cells
                      have hold : ∀ i j y, cellAt rows i j = some y → ∃ u, G.S ⟨(G.ρ n).b, i * sz + j, none⟩ = some u ∧ R1 G.S G.E y u ∧ y.plain = true := by
                        intro i j y hy
                        rw [hbase] at hsr
                        have hlt := cellAt_lt hy hall1
                        cases hsr with
                        | slice _ _ b off cap sz' val hle hall' hfull hpl h1 h2 =>
                          have hss' : sz' = sz := by
                            obtain ⟨r, hr, _⟩ := Option.bind_eq_some_iff.1 hy
                            rw [← hall' r (List.mem_of_getElem? hr), hall1 r (List.mem_of_getElem? hr)]
                          subst hss'
                          have q := h1 i j y hy
                          rw [Nat.zero_add] at q
                          exact ⟨_, q, h2 i j y hy, hpl i j y hy⟩
                      have hnewc : ∀ i j y, rows.length ≤ i → cellAt ys (i - rows.length) j = some y → ∃ u, G'.S ⟨(G.ρ n).b, i * sz + j, none⟩ = some u ∧ R1 G.S G.E y u ∧ y.plain = true := by
                        intro i j y hi hy
                        have hlt := cellAt_lt hy hall2
                        obtain ⟨u, q1, q2⟩ := hRWy.2.2.2 _ _ _ hy
                        have hmul : rows.length * sz ≤ i * sz := Nat.mul_le_mul_right _ hi
                        have hsub : (i - rows.length) * sz = i * sz - rows.length * sz := Nat.sub_mul _ _ _
                        have hup : i * sz + j < (rows.length + ys.length) * sz := by
                          have : (i + 1) * sz ≤ (rows.length + ys.length) * sz := Nat.mul_le_mul_right _ (by omega)
                          rw [Nat.add_mul] at this; omega
                        refine ⟨u, ?_, q2, hRWy.2.2.1 _ _ _ hy⟩
                        simp only [G', true_and]
                        rw [if_pos ⟨by omega, hup⟩, e4]
                        have hul : us.toList.length = ys.length * sz := by rw [Array.length_toList]; exact hRWy.1
                        rw [Nat.add_mul] at hup
                        rw [if_pos ⟨by omega, by rw [hul]; omega⟩, show i * sz + j - (rows.length * sz + 0) = (i - rows.length) * sz + j by omega, Array.getElem?_toList]
                        exact q1
                      refine R1.slice (rows ++ ys) (.id lab) (G.ρ n).b 0 (G.ρ n).cap sz (fun i j => (G'.S ⟨(G.ρ n).b, i * sz + j, none⟩).getD Go.undef) (by rw [hl2]; exact hroom) hall (by intro h0; cases h0) ?_ ?_ ?_
                      · intro i j y hy
                        rcases hcell i j y hy with ⟨_, hy⟩ | ⟨hi, hy⟩
                        · obtain ⟨_, _, _, q⟩ := hold i j y hy; exact q
                        · obtain ⟨_, _, _, q⟩ := hnewc i j y hi hy; exact q
                      · intro i j y hy
                        rw [Nat.zero_add]
                        rcases hcell i j y hy with ⟨_, hy⟩ | ⟨hi, hy⟩
                        · obtain ⟨u, q, _, _⟩ := hold i j y hy
                          rw [hS _ _ q]; rfl
                        · obtain ⟨u, q, _, _⟩ := hnewc i j y hi hy
                          rw [q]; rfl
                      · intro i j y hy
                        rcases hcell i j y hy with ⟨_, hy⟩ | ⟨hi, hy⟩
                        · obtain ⟨u, q, q2, _⟩ := hold i j y hy
                          rw [hS _ _ q]
                          exact R1.mono hS (fun l b h => h) q2
                        · obtain ⟨u, q, q2, _⟩ := hnewc i j y hi hy
                          rw [q]
                          exact R1.mono hS (fun l b h => h) q2
                    · rw [hρl]
                      exact ⟨by rw [hl2], hl2, hall⟩
                · exact grow _ (fun m hm => by
                    rcases hal2 m hm with h1 | ⟨h1, _⟩
                    · exact .inl h1
                    · exact .inr h1) hpy _ _ hbase hroom
            · cases hv
          · cases hv
        · cases hv
      · cases hv
    · cases hv
  · cases hv
end
end Go.Proofs.V
