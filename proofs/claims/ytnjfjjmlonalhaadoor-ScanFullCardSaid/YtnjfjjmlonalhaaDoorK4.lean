/- Append does what is reckoned. -/
import Derived.Test.YtnjfjjmlonalhaaDoorK3
namespace Go.Proofs.V
open Go Go.RowKit
set_option linter.unusedVariables false
set_option linter.unusedSimpArgs false

section
variable {E0 : Nat → Prop} {w0 : Ent} {Z : Nat → Prop} {G : Gh} {F : St} {a : Act} {w : World} {P : Program} {lab d : Nat}

theorem RW.one {sz : Nat} {rows : List (List AV)} {us : Array Value} (h : RW G sz rows us) (hpos : 0 < sz) : ∀ u ∈ us.toList, Value.one u = true := by
  intro u hu
  obtain ⟨k, hk⟩ := List.getElem?_of_mem hu
  have hk' : us[k]? = some u := by simpa using hk
  have hlt : k < rows.length * sz := by rw [← h.1]; exact (Array.getElem?_eq_some_iff.1 hk').1
  have h1 : k / sz < rows.length := Nat.div_lt_of_lt_mul (by rw [Nat.mul_comm]; exact hlt)
  have h2 : k % sz < sz := Nat.mod_lt _ hpos
  have hx : cellAt rows (k / sz) (k % sz) = some ((rows[k / sz])[k % sz]'(by rw [h.2.1 _ (List.getElem_mem h1)]; exact h2)) := by simp [cellAt, h1]
  obtain ⟨v, e1, e2⟩ := h.2.2.2 _ _ _ hx
  have e : k / sz * sz + k % sz = k := by rw [Nat.mul_comm]; exact Nat.div_add_mod k sz
  rw [e, hk'] at e1
  rw [Option.some.inj e1]
  exact R1.one e2 (h.2.2.1 _ _ _ hx)

theorem append_sound (h : Inv E0 w0 Z G F a w) (hz : ∀ n, Z1 lab n → ¬ Z n) (hd : d < F.n) {o : Oper} {s x : Operand} {ts : Array TypeId} (ho : o.op = .call { callee := .builtin .append, args := #[s, x], argTypes := ts }) {t : TypeId} (ht : ts[0]? = some t)
    {v : AV} {al' : Nat → Bool} (hv : appendA P F lab t (F.ev s) (F.ev x) ts[1]? = some (v, al')) :
    ∃ r w' G', (execOp a.eval o).run P w = .ok (.value r) w' ∧ Inv E0 w0 (fun n => Z n ∨ Z1 lab n) G' { F with t := upd F.t d v, al := al' } (a.put (some d) r) w' := by
  unfold appendA at hv
  split at hv
  · rename_i e rows nl own he hs
    split at hv
    · rename_i sz by_ hsz hby
      split at hv
      · rename_i ys hys
        split at hv
        · rename_i hc
          simp only [Bool.and_eq_true, decide_eq_true_eq, beq_iff_eq, List.all_eq_true] at hc
          obtain ⟨⟨⟨⟨⟨hall, hpos⟩, hbound⟩, hmax⟩, hby0⟩, htz⟩ := hc
          have hall1 : ∀ r ∈ rows, r.length = sz := fun r hr => hall r (List.mem_append.2 (.inl hr))
          have hall2 : ∀ r ∈ ys, r.length = sz := fun r hr => hall r (List.mem_append.2 (.inr hr))
          simp only [Option.map_eq_some_iff] at htz
          obtain ⟨zc, hzc, hzl⟩ := htz
          obtain ⟨ii, zz, hi, hiz, hzz, _, hzl2⟩ := tzero_info hzc
          have hzsz : zz.cells.size = sz := by rw [← hzl2, hzl]
          obtain ⟨hlen, ⟨us, hus, hRWy⟩, xt, hxt, hxu⟩ := src_rows h hys hall2 hpos
          have hsr : R1 G.S G.E (.slice rows nl own) (a.eval s) := by
            have hsr0 := (opd h s).rv
            rw [hs] at hsr0
            exact hsr0
          have hu := tel_und he
          -- the way that grows
          have grow : ∀ al2 : Nat → Bool, (∀ m, al2 m = true → m = lab ∨ F.al m = true) → 0 < ys.length → ∀ base cap, a.eval s = .slice base rows.length cap → ¬ rows.length + ys.length ≤ cap →
              ∃ r w' G', (execOp a.eval o).run P w = .ok (.value r) w' ∧ Inv E0 w0 (fun n => Z n ∨ Z1 lab n) G' { F with t := upd F.t d (.slice (rows ++ ys) false (.id lab)), al := al2 } (a.put (some d) r) w' := by
            intro al2 hal hpy base cap hbase hroom
            obtain ⟨base', cap', hb', hle, us0, hus0, hRW0⟩ := base_rows (P := P) (w := w.drew) (mem_drew h.mem) hsr hall1 hpos
            rw [hbase] at hb'
            cases hb'
            obtain ⟨_, ⟨us', hus', hRWy'⟩, _⟩ := src_rows (P := P) (w := w.drew) (F := F) (a := a) (x := x) (xt := ts[1]?) (ys := ys) (sz := sz) (E0 := E0) (w0 := w0) (Z := Z) (G := G) (by
              exact { h with mem := mem_drew h.mem, bel := h.bel.trans ⟨rfl, rfl, rfl, Nat.le_refl _, fun _ _ _ => rfl⟩ }) hys hall2 hpos
            obtain ⟨c, rest, hc1, hc2, hrun⟩ := append_grow (P := P) (w := w) (type := o.type) (base := base) (cap := cap) (xv := a.eval x) (us0 := us0) (us := us') ht hxt hu hsz hby hxu hlen (fun w' hw' => by subst hw'; exact hus') (fun w' hw' => by subst hw'; rw [hbase] at hus0; exact hus0) hroom hbound hmax hby0 hi hiz hzsz
            rw [← hbase] at hrun
            obtain ⟨G', hG⟩ := grown_new (d := d) h hz hd (rest := rest) (c := c) (e := e) (al' := al2) (hRW0.append hRWy') (by simp; omega) (by simpa using hc1) (by simpa using hc2) hal
            have hl2 : (rows ++ ys).length = rows.length + ys.length := by simp
            rw [hl2] at hG
            exact ⟨_, _, G', append_op ho hrun, hG⟩
          split at hv
          · -- no spare room
            have hcap : ∃ base, a.eval s = .slice base rows.length rows.length := by
              generalize a.eval s = q at *
              cases hsr with
              | nil => exact ⟨none, rfl⟩
              | slice _ _ b off cap sz' val hle hall' hfull hpl h1 h2 => exact ⟨_, by rw [hfull rfl]⟩
            obtain ⟨base, hbase⟩ := hcap
            split at hv
            · rename_i hemp
              have := Option.some.inj hv; cases this
              have hy0 : ys = [] := by simpa using hemp
              subst hy0
              have hrun : (Builtin.append_ ts o.type #[a.eval s, a.eval x]).run P w = .ok (a.eval s) w := by
                have hus0 : us = #[] := by have := hRWy.1; simpa using this
                subst hus0
                have := append_room (P := P) (w := w) (type := o.type) (base := base) (len := rows.length) (cap := rows.length) (xv := a.eval x) ht hxt hu hsz hxu hlen hus (by simp) (w' := w) (fun _ _ => rfl) (fun _ => rfl)
                rw [← hbase] at this
                simpa [hbase] using this
              refine ⟨_, _, G, append_op ho hrun, ?_⟩
              have hop := opd h s
              exact (h.set hd hop.nb hop.rv hop.cl hop.ids).zmono fun n hn => .inl hn
            · rename_i hne
              have := Option.some.inj hv; cases this
              have hpy : 0 < ys.length := by
                cases ys with
                | nil => simp at hne
                | cons y ys => simp
              exact grow (upd F.al lab true) (fun m hm => by
                simp only [upd_apply] at hm
                split at hm
                · exact .inl ‹_›
                · exact .inr hm) hpy base rows.length hbase (by omega)
          · -- a row of the frame's own
            rename_i n
            split at hv
            · rename_i hal
              obtain ⟨hbase, hnl, hlenr, hszr⟩ := tmp_slice hs h hal
              split at hv
              · rename_i hemp
                have := Option.some.inj hv; cases this
                have hy0 : ys = [] := by simpa using hemp
                subst hy0
                have hle : rows.length ≤ (G.ρ n).cap := by rw [hlenr]; exact (h.row n hal).2.2.2.1.2
                have hrun : (Builtin.append_ ts o.type #[a.eval s, a.eval x]).run P w = .ok (a.eval s) w := by
                  have hus0 : us = #[] := by have := hRWy.1; simpa using this
                  subst hus0
                  have := append_room (P := P) (w := w) (type := o.type) (base := some ⟨(G.ρ n).b, 0, none⟩) (len := rows.length) (cap := (G.ρ n).cap) (xv := a.eval x) ht hxt hu hsz hxu hlen hus (by simpa using hle) (w' := w) (fun _ _ => rfl) (fun _ => rfl)
                  rw [← hbase] at this
                  simpa [hbase] using this
                refine ⟨_, _, G, append_op ho hrun, ?_⟩
                have hop := opd h s
                exact (h.set hd hop.nb hop.rv hop.cl hop.ids).zmono fun n hn => .inl hn
              · rename_i hne
                have := Option.some.inj hv; cases this
                have hpy : 0 < ys.length := by
                  cases ys with
                  | nil => simp at hne
                  | cons y ys => simp
                obtain ⟨hr1, hr2, ⟨vs, ty, hr3, hr3'⟩, hr4, hr5⟩ := h.row n hal
                have hal2 : ∀ m, upd (upd F.al n false) lab true m = true → m = lab ∨ (F.al m = true ∧ m ≠ n) := by
                  intro m hm
                  simp only [upd_apply] at hm
                  split at hm
                  · exact .inl ‹_›
                  · split at hm
                    · cases hm
                    · exact .inr ⟨hm, ‹_›⟩
                by_cases hroom : rows.length + ys.length ≤ (G.ρ n).cap
                · -- in place
                  have hss : sz = (G.ρ n).sz := by
                    cases rows with
                    | nil => have := hr4.1; rw [← hlenr] at this; simp at this
                    | cons r rs => rw [← hall1 r (List.mem_cons_self ..), hszr r (List.mem_cons_self ..)]
                  · have hfit : rows.length * sz + 0 + us.toList.length ≤ vs.size := by
                      rw [hr3', ← hss]
                      have h1 : us.toList.length = ys.length * sz := by rw [Array.length_toList]; exact hRWy.1
                      rw [h1, Nat.add_zero, ← Nat.add_mul]
                      exact Nat.mul_le_mul_right _ hroom
                    obtain ⟨w', vs', e1, e2, e3, e4⟩ := storeCells_run (P := P) (b := (G.ρ n).b) (off := rows.length * sz) (ty := ty) us.toList 0 vs w hr3 hfit (hRWy.one hpos)
                    have hrun : (Builtin.append_ ts o.type #[a.eval s, a.eval x]).run P w = .ok (.slice (some ⟨(G.ρ n).b, 0, none⟩) (rows.length + ys.length) (G.ρ n).cap) w' := by
                      have := append_room (P := P) (w := w) (type := o.type) (base := some ⟨(G.ρ n).b, 0, none⟩) (len := rows.length) (cap := (G.ρ n).cap) (xv := a.eval x) ht hxt hu hsz hxu hlen hus hroom (w' := w') (fun a' ha' => by
                        cases ha'
                        rw [add_none, Nat.zero_add]
                        exact e1) (fun h0 => by cases h0)
                      rw [← hbase] at this
                      exact this
                    let G' : Gh := { G with S := fun ad => if ad.block = (G.ρ n).b ∧ ad.spot = none ∧ rows.length * sz ≤ ad.off ∧ ad.off < (rows.length + ys.length) * sz then vs'[ad.off]? else G.S ad, u := fun k => if k = (G.ρ n).b then some (.row lab) else G.u k, ρ := fun m => if m = lab then ⟨(G.ρ n).b, rows.length + ys.length, (G.ρ n).cap, sz⟩ else G.ρ m }
                    have hρl : G'.ρ lab = ⟨(G.ρ n).b, rows.length + ys.length, (G.ρ n).cap, sz⟩ := by simp [G']
                    have hblt := h.live _ (by rw [hr2]; rfl)
                    have hSnone : ∀ ad : Addr, ad.block = (G.ρ n).b → ad.spot = none → rows.length * sz ≤ ad.off → G.S ad = none := by
                      rintro ⟨b, off, sp⟩ rfl rfl hoff
                      exact hr5 off (by rw [← hlenr, ← hss]; exact hoff)
                    have hS : ∀ ad v, G.S ad = some v → G'.S ad = some v := fun ad v hv => by
                      simp only [G']
                      rw [if_neg (by rintro ⟨q1, q2, q3, _⟩; rw [hSnone ad q1 q2 q3] at hv; cases hv)]
                      exact hv
                    have hl2 : (rows ++ ys).length = rows.length + ys.length := by simp
                    refine ⟨_, w', G', append_op ho hrun, ?_⟩
                    refine inv_grown (G' := G') (b := (G.ρ n).b) h hz hd hS ?_ rfl rfl (e2.bel (.inl hr1) h.bel) hr1 (fun m hm => by simp only [G']; rw [if_neg hm]) (fun k _ hk => e2.other k hk) (fun ad _ q2 q3 => by simp only [G']; rw [if_neg (by rintro ⟨q, _⟩; exact q2 q)]; exact q3) (fun k hk => by simp only [G']; rw [if_neg hk]) (by simp [G']) (fun m hm => ?_) (.inr ⟨n, hr2⟩) ?_ (fun k hk => ?_) ?_ ?_
                    · intro ad u hau
                      simp only [G'] at hau
                      split at hau
                      · rename_i hq
                        obtain ⟨b, off, sp⟩ := ad
                        obtain ⟨rfl, rfl, q3, q4⟩ := hq
                        simp only [World.cell?, e2.at_]
                        exact hau
                      · rename_i hq
                        by_cases hb : ad.block = (G.ρ n).b
                        · have hc := h.mem ad u hau
                          obtain ⟨b, off, sp⟩ := ad
                          simp only at hb
                          subst hb
                          have hsp : sp = none := by
                            cases sp with
                            | none => rfl
                            | some q => simp [World.cell?, hr3] at hc
                          subst hsp
                          have hoff : off < rows.length * sz := by
                            rcases Nat.lt_or_ge off (rows.length * sz) with h1 | h1
                            · exact h1
                            · rw [hSnone _ rfl rfl h1] at hau; cases hau
                          simp only [World.cell?, hr3, Option.isSome_none, Bool.false_eq_true, if_false] at hc
                          simp only [World.cell?, e2.at_, Option.isSome_none, Bool.false_eq_true, if_false]
                          rw [e4, if_neg (by omega)]
                          exact hc
                        · rw [World.cell?_of_block (w := w) (e2.other _ hb)]
                          exact h.mem ad u hau
                    · rcases hal2 m hm with h1 | ⟨h1, h2⟩
                      · exact .inl h1
                      · refine .inr ⟨h1, fun hb => ?_⟩
                        obtain ⟨_, q2, _⟩ := h.row m h1
                        rw [hb, hr2] at q2
                        injection q2 with q2
                        injection q2 with q2
                        exact h2 q2.symm
                    · rw [hρl]
                      refine ⟨hr1, by simp [G'], ⟨vs', ty, e2.at_, by rw [e3, hr3', hss]⟩, ⟨by show 0 < rows.length + ys.length; omega, hroom⟩, fun off hoff => ?_⟩
                      have hoff : (rows.length + ys.length) * sz ≤ off := hoff
                      simp only [G']
                      rw [if_neg (by rintro ⟨_, _, _, q⟩; omega)]
                      refine hr5 off ?_
                      rw [← hlenr, ← hss]
                      have : rows.length * sz ≤ (rows.length + ys.length) * sz := Nat.mul_le_mul_right _ (Nat.le_add_right _ _)
                      omega
                    · simp only [G'] at hk
                      rw [e2.size]
                      split at hk
                      · rename_i hkb; rw [hkb]; exact hblt
                      · exact h.live k hk
                    · rw [← hl2]
                      have hcell : ∀ i j y, cellAt (rows ++ ys) i j = some y → (i < rows.length ∧ cellAt rows i j = some y) ∨ (rows.length ≤ i ∧ cellAt ys (i - rows.length) j = some y) := by
                        intro i j y hy
                        unfold cellAt at *
                        by_cases hi : i < rows.length
                        · rw [List.getElem?_append_left hi] at hy; exact .inl ⟨hi, hy⟩
                        · rw [List.getElem?_append_right (by omega)] at hy; exact .inr ⟨by omega, hy⟩
                      -- the elder cells
                      have hold : ∀ i j y, cellAt rows i j = some y → ∃ u, G.S ⟨(G.ρ n).b, i * sz + j, none⟩ = some u ∧ R1 G.S G.E y u ∧ y.plain = true := by
                        intro i j y hy
                        rw [hbase] at hsr
                        have hlt := cellAt_lt hy hall1
                        cases hsr with
                        | slice _ _ b off cap sz' val hle hall' hfull hpl h1 h2 =>
                          have hss' : sz' = sz := by
                            obtain ⟨r, hr, _⟩ := Option.bind_eq_some_iff.1 hy
                            rw [← hall' r (List.mem_of_getElem? hr), hall1 r (List.mem_of_getElem? hr)]
                          subst hss'
                          have q := h1 i j y hy
                          rw [Nat.zero_add] at q
                          exact ⟨_, q, h2 i j y hy, hpl i j y hy⟩
                      have hnewc : ∀ i j y, rows.length ≤ i → cellAt ys (i - rows.length) j = some y → ∃ u, G'.S ⟨(G.ρ n).b, i * sz + j, none⟩ = some u ∧ R1 G.S G.E y u ∧ y.plain = true := by
                        intro i j y hi hy
                        have hlt := cellAt_lt hy hall2
                        obtain ⟨u, q1, q2⟩ := hRWy.2.2.2 _ _ _ hy
                        have hmul : rows.length * sz ≤ i * sz := Nat.mul_le_mul_right _ hi
                        have hsub : (i - rows.length) * sz = i * sz - rows.length * sz := Nat.sub_mul _ _ _
                        have hup : i * sz + j < (rows.length + ys.length) * sz := by
                          have : (i + 1) * sz ≤ (rows.length + ys.length) * sz := Nat.mul_le_mul_right _ (by omega)
                          rw [Nat.add_mul] at this; omega
                        refine ⟨u, ?_, q2, hRWy.2.2.1 _ _ _ hy⟩
                        simp only [G', true_and]
                        rw [if_pos ⟨by omega, hup⟩, e4]
                        have hul : us.toList.length = ys.length * sz := by rw [Array.length_toList]; exact hRWy.1
                        rw [Nat.add_mul] at hup
                        rw [if_pos ⟨by omega, by rw [hul]; omega⟩, show i * sz + j - (rows.length * sz + 0) = (i - rows.length) * sz + j by omega, Array.getElem?_toList]
                        exact q1
                      refine R1.slice (rows ++ ys) (.id lab) (G.ρ n).b 0 (G.ρ n).cap sz (fun i j => (G'.S ⟨(G.ρ n).b, i * sz + j, none⟩).getD Go.undef) (by rw [hl2]; exact hroom) hall (by intro h0; cases h0) ?_ ?_ ?_
                      · intro i j y hy
                        rcases hcell i j y hy with ⟨_, hy⟩ | ⟨hi, hy⟩
                        · obtain ⟨_, _, _, q⟩ := hold i j y hy; exact q
                        · obtain ⟨_, _, _, q⟩ := hnewc i j y hi hy; exact q
                      · intro i j y hy
                        rw [Nat.zero_add]
                        rcases hcell i j y hy with ⟨_, hy⟩ | ⟨hi, hy⟩
                        · obtain ⟨u, q, _, _⟩ := hold i j y hy
                          rw [hS _ _ q]; rfl
                        · obtain ⟨u, q, _, _⟩ := hnewc i j y hi hy
                          rw [q]; rfl
                      · intro i j y hy
                        rcases hcell i j y hy with ⟨_, hy⟩ | ⟨hi, hy⟩
                        · obtain ⟨u, q, q2, _⟩ := hold i j y hy
                          rw [hS _ _ q]
                          exact R1.mono hS (fun l b h => h) q2
                        · obtain ⟨u, q, q2, _⟩ := hnewc i j y hi hy
                          rw [q]
                          exact R1.mono hS (fun l b h => h) q2
                    · rw [hρl]
                      exact ⟨by rw [hl2], hl2, hall⟩
                · exact grow _ (fun m hm => by
                    rcases hal2 m hm with h1 | ⟨h1, _⟩
                    · exact .inl h1
                    · exact .inr h1) hpy _ _ hbase hroom
            · cases hv
          · cases hv
        · cases hv
      · cases hv
    · cases hv
  · cases hv
end
end Go.Proofs.V
namespace Go.Proofs.V
open Go Go.RowKit
set_option linter.unusedVariables false
set_option linter.unusedSimpArgs false

section
variable {E0 : Nat → Prop} {w0 : Ent} {Z : Nat → Prop} {G : Gh} {F : St} {a : Act} {w : World} {P : Program} {lab d : Nat}

/-- A box becomes a row that nobody writes. -/
theorem inv_freeze1 (h : Inv E0 w0 Z G F a w) {i g : Nat} {cs : List AV} (hi : F.t i = .box g cs) : ∃ G', Inv E0 w0 Z G' { F with t := upd F.t i (.ref (cs.map strip1) 0) } a w ∧ (∀ ad v, G.S ad = some v → G'.S ad = some v) ∧ G'.E = G.E := by
  obtain ⟨b, vs, hB, hb0, hu, ⟨⟨ty, hheap⟩, hsz, hpl, hR, hS⟩, hcl⟩ := h.box i g cs hi
  let G' : Gh := { G with S := fun ad => if ad.block = b ∧ ad.spot = none then vs[ad.off]? else G.S ad, u := fun k => if k = b then none else G.u k }
  have hSS : ∀ ad v, G.S ad = some v → G'.S ad = some v := fun ad v hv => by
    simp only [G']
    rw [if_neg (by rintro ⟨q, _⟩; rw [hS ad q] at hv; cases hv)]
    exact hv
  have hblt := h.live b (by rw [hu]; rfl)
  have hRR : ∀ {x : AV} {v : Value}, R1 G.S G.E x v → R1 G'.S G'.E x v := fun hr => R1.mono hSS (fun l b hb => hb) hr
  have hRV : ∀ {x : AV} {v : Value}, RV G x v → RV G' x v := by
    intro x v hr
    cases x with
    | fp p q r => exact hr
    | box p q => exact hr
    | _ => exact hRR hr
  have hSn : ∀ ad : Addr, ad.block ≠ b → G.S ad = none → G'.S ad = none := fun ad h1 h2 => by
    simp only [G']
    rw [if_neg (by rintro ⟨q, _⟩; exact h1 q)]
    exact h2
  have hne : ∀ {b' : Nat} {tg : Tg}, G.u b' = some tg → tg ≠ .slot i → b' ≠ b := by
    rintro b' tg h1 h2 rfl
    rw [hu] at h1
    exact h2 (Option.some.inj h1).symm
  have hHolds : ∀ {b' : Nat} {cs : List AV} {vs : Array Value}, b' ≠ b → Holds1 G w b' cs vs → Holds1 G' w b' cs vs := by
    rintro b' cs vs hne ⟨q1, q2, q3, q4, q5⟩
    exact ⟨q1, q2, q3, fun j x v hx hv => hRR (q4 j x v hx hv), fun ad ha => hSn ad (by rw [ha]; exact hne) (q5 ad ha)⟩
  have hslot := h.slot i
  rw [hi] at hslot
  obtain ⟨b', hb', hav⟩ := hslot
  rw [hB] at hb'
  have := Option.some.inj hb'; subst this
  refine ⟨G', ?_, hSS, rfl⟩
  exact {
    nsz := h.nsz
    df := h.df
    slot := fun j => by
      simp only [upd_apply]
      split
      · rename_i hj
        subst hj
        rw [hav]
        have hval : ∀ (k : Nat) (x : AV), (cs.map strip1)[k]? = some x → ∃ y, cs[k]? = some y ∧ x = strip1 y ∧ vs[k]? = some (vs.getD k Go.undef) := by
          intro k x hx
          rw [List.getElem?_map] at hx
          simp only [Option.map_eq_some_iff] at hx
          obtain ⟨y, hy, rfl⟩ := hx
          have hk : k < vs.size := by rw [hsz]; exact (List.getElem?_eq_some_iff.1 hy).1
          exact ⟨y, hy, rfl, by simp [Array.getD, hk]⟩
        have := R1.ref (S := G'.S) (E := G'.E) (cs.map strip1) 0 b 0 (fun k => vs.getD k Go.undef) (fun x hx => by
            obtain ⟨y, hy, rfl⟩ := List.mem_map.1 hx
            rw [plain_strip1]; exact hpl y hy) (fun k x hx => by
            obtain ⟨y, _, _, hv⟩ := hval k x hx
            simp only [G', Nat.zero_add, and_self, if_true]
            exact hv) (fun k x hx => by
            obtain ⟨y, hy, rfl, hv⟩ := hval k x hx
            exact strip1_R1 (hRR (hR k y _ hy hv)))
        exact this
      · exact hRV (h.slot j)
    cl := fun j hb' => by
      simp only [upd_apply] at hb' ⊢
      split
      · exact Cl_of_noId (by rintro n ⟨y, hy, rows, nl, rfl⟩; simp [parts] at hy)
      · rename_i hj; exact h.cl j (by simpa only [hj, if_false] using hb')
    ids := fun j n => by
      simp only [upd_apply]
      split
      · rintro ⟨y, hy, rows, nl, rfl⟩; simp [parts] at hy
      · exact h.ids j n
    mem := fun ad v hv => by
      simp only [G'] at hv
      split at hv
      · rename_i hq
        obtain ⟨b2, o, s⟩ := ad
        obtain ⟨rfl, rfl⟩ := hq
        simp only [World.cell?, hheap]
        exact hv
      · exact h.mem ad v hv
    bel := h.bel
    rel := ⟨fun ad v hv => hSS _ _ (h.rel.1 ad v hv), fun ad h0 hb he => hSn ad (by rintro rfl; rcases hb0 with q | q; (· omega); (· exact he q.1)) (h.rel.2.1 ad h0 hb he), h.rel.2.2.1, h.rel.2.2.2.1, h.rel.2.2.2.2⟩
    box := fun j gg cs' hj => by
      simp only [upd_apply] at hj
      split at hj
      · cases hj
      · rename_i hji
        obtain ⟨b2, vs2, q1, q2, q3, q4, q5⟩ := h.box j gg cs' hj
        have hn := hne q3 (by intro e; injection e with e; exact hji e)
        exact ⟨b2, vs2, q1, q2, by simp only [G']; rw [if_neg hn]; exact q3, hHolds hn q4, q5⟩
    row := fun n ha => by
      obtain ⟨q1, q2, q3, q4, q5⟩ := h.row n ha
      have hn := hne q2 (by intro e; cases e)
      exact ⟨q1, by simp only [G']; rw [if_neg hn]; exact q2, q3, q4, fun o ho => hSn _ hn (q5 o ho)⟩
    obj := fun l cs' hl => by
      obtain ⟨b2, vs2, q1, q2, q3, q4⟩ := h.obj l cs' hl
      have hn := hne q3 (by intro e; cases e)
      exact ⟨b2, vs2, q1, q2, by simp only [G']; rw [if_neg hn]; exact q3, hHolds hn q4⟩
    zB := h.zB
    zal := h.zal
    live := fun k hk => by
      simp only [G'] at hk
      split at hk
      · cases hk
      · exact h.live k hk
    pro := fun k o hk => by
      obtain ⟨p1, p2, p3⟩ := h.pro k o hk
      have hkb : k ≠ b := by rintro rfl; rw [hu] at p2; cases p2
      refine ⟨p1, ?_, fun hf ad ha => hSn ad (by rw [ha]; exact hkb) (p3 hf ad ha)⟩
      simp only [G']
      split
      · rfl
      · exact p2
    bm := h.bm }

theorem freezeL_sound : ∀ (l : List Operand) {G : Gh} {F : St} {xs : List AV} {F1 : St}, Inv E0 w0 Z G F a w → freezeL F l = some (xs, F1) → ∃ G1, Inv E0 w0 Z G1 F1 a w ∧ (∀ ad v, G.S ad = some v → G1.S ad = some v) ∧ G1.E = G.E ∧ xs.length = l.length ∧ (∀ (j : Nat) (x : AV) (o : Operand), xs[j]? = some x → l[j]? = some o → R1 G1.S G1.E x (a.eval o)) ∧ F1.n = F.n
  | [], G, F, xs, F1, h, hf => by simp [freezeL] at hf; obtain ⟨rfl, rfl⟩ := hf; exact ⟨G, h, fun _ _ h => h, rfl, rfl, fun j x o hx => by simp at hx, rfl⟩
  | op :: l, G, F, xs, F1, h, hf => by
    have other : ∀ {y : AV}, R1 G.S G.E y (a.eval op) → (freezeL F l).map (fun r => (y :: r.1, r.2)) = some (xs, F1) → ∃ G1, Inv E0 w0 Z G1 F1 a w ∧ (∀ ad v, G.S ad = some v → G1.S ad = some v) ∧ G1.E = G.E ∧ xs.length = (op :: l).length ∧ (∀ (j : Nat) (x : AV) (o : Operand), xs[j]? = some x → (op :: l)[j]? = some o → R1 G1.S G1.E x (a.eval o)) ∧ F1.n = F.n := by
      intro y hy hm
      simp only [Option.map_eq_some_iff] at hm
      obtain ⟨⟨ys, F2⟩, hr, he⟩ := hm
      cases he
      obtain ⟨G1, q1, q2, q3, q4, q5, q6⟩ := freezeL_sound l h hr
      refine ⟨G1, q1, q2, q3, by simp [q4], fun j x o hx ho => ?_, q6⟩
      cases j with
      | zero => simp at hx ho; subst hx; subst ho; exact R1.mono q2 (fun l b hb => by rw [q3]; exact hb) hy
      | succ j => exact q5 j x o (by simpa using hx) (by simpa using ho)
    have oth2 : ∀ (hfree : (F.ev op).free = true), (freezeL F l).map (fun r => (strip (F.ev op) :: r.1, r.2)) = some (xs, F1) → ∃ G1, Inv E0 w0 Z G1 F1 a w ∧ (∀ ad v, G.S ad = some v → G1.S ad = some v) ∧ G1.E = G.E ∧ xs.length = (op :: l).length ∧ (∀ (j : Nat) (x : AV) (o : Operand), xs[j]? = some x → (op :: l)[j]? = some o → R1 G1.S G1.E x (a.eval o)) ∧ F1.n = F.n :=
      fun hfree hm => other (strip_R1 (opd_R1 (opd h op) hfree)) hm
    cases op with
    | tmp i =>
      simp only [freezeL] at hf
      split at hf
      · rename_i g cs hi
        simp only [Option.map_eq_some_iff] at hf
        obtain ⟨⟨ys, F2⟩, hr, he⟩ := hf
        cases he
        obtain ⟨G2, q1, q2, q3⟩ := inv_freeze1 h hi
        obtain ⟨G1, r1, r2, r3, r4, r5, r6⟩ := freezeL_sound l q1 hr
        refine ⟨G1, r1, fun ad v hv => r2 _ _ (q2 ad v hv), r3.trans q3, by simp [r4], fun j x o hx ho => ?_, r6⟩
        cases j with
        | zero =>
          simp at hx ho
          subst hx; subst ho
          have hs := q1.slot i
          simp only [upd_same] at hs
          have hs : R1 G2.S G2.E (.ref (cs.map strip1) 0) (a.tmps.getD i Go.undef) := hs
          exact R1.mono r2 (fun l b hb => by rw [r3]; exact hb) hs
        | succ j => exact r5 j x o (by simpa using hx) (by simpa using ho)
      · rename_i hnb
        split at hf
        · rename_i hfree
          have e : F.ev (.tmp i) = F.t i := by
            simp only [St.ev, St.tmp]
            first | done | (split; · rename_i g cs he; exact absurd he (hnb g cs)
                            · rfl)
          exact oth2 (by rw [e]; exact hfree) (by rw [e]; exact hf)
        · cases hf
    | const v =>
      simp only [freezeL] at hf
      split at hf
      · rename_i hfree; exact oth2 hfree hf
      · cases hf
    | global g =>
      simp only [freezeL] at hf
      split at hf
      · rename_i hfree; exact oth2 hfree hf
      · cases hf
    | func f =>
      simp only [freezeL] at hf
      split at hf
      · rename_i hfree; exact oth2 hfree hf
      · cases hf

theorem toArr {α β : Type} (f : α → β) (l : Array α) : l.map f = (l.toList.map f).toArray := by
  apply Array.ext'
  simp

theorem makeFunc_sound (h : Inv E0 w0 Z G F a w) {o : Oper} {f : Fn} {first captured : Array Operand} (ho : o.op = .makeFunc f first captured) {fs cs : List AV} {F1 F2 : St} (h1 : freezeL F first.toList = some (fs, F1)) (h2 : freezeL F1 captured.toList = some (cs, F2)) {d : Nat} (hd : d < F2.n) :
    ∃ v G', (execOp a.eval o).run P w = .ok (.value v) w ∧ Inv E0 w0 Z G' { F2 with t := upd F2.t d (.fn f fs cs) } (a.put (some d) v) w := by
  obtain ⟨G1, q1, q2, q3, q4, q5, q6⟩ := freezeL_sound _ h h1
  obtain ⟨G2, r1, r2, r3, r4, r5, r6⟩ := freezeL_sound _ q1 h2
  refine ⟨.func f (first.map a.eval) (captured.map a.eval), G2, by simp [execOp, ho, Instr.makeFunc, Sem.run_bind], ?_⟩
  have hr : R1 G2.S G2.E (.fn f fs cs) (.func f (first.map a.eval) (captured.map a.eval)) := by
    have e1 : first.map a.eval = (first.toList.map a.eval).toArray := toArr _ _
    have e2 : captured.map a.eval = (captured.toList.map a.eval).toArray := toArr _ _
    rw [e1, e2]
    refine R1.fn f fs cs _ _ (by simp [q4]) (by simp [r4]) (fun j x v hx hv => ?_) (fun j x v hx hv => ?_)
    · rw [List.getElem?_map] at hv
      simp only [Option.map_eq_some_iff] at hv
      obtain ⟨y, hy, rfl⟩ := hv
      exact R1.mono r2 (fun l b hb => by rw [r3]; exact hb) (q5 j x y hx hy)
    · rw [List.getElem?_map] at hv
      simp only [Option.map_eq_some_iff] at hv
      obtain ⟨y, hy, rfl⟩ := hv
      exact r5 j x y hx hy
  have hop : Opd G2 F2 Z (.fn f fs cs) (.func f (first.map a.eval) (captured.map a.eval)) := .of_noId hr (by rintro n ⟨y, hy, rows, nl, rfl⟩; simp [parts] at hy)
  exact r1.set hd hop.nb hop.rv hop.cl hop.ids

/-! ### Builtins -/
theorem evs_vals (h : Inv E0 w0 Z G F a w) : ∀ {l : List Operand} {us : List Value}, vals (evs F l) = some us → l.map a.eval = us
  | [], us, hv => by simp [evs, vals] at hv; subst hv; rfl
  | x :: l, us, hv => by
    simp only [evs, vals] at hv
    split at hv
    · rename_i u us' h1 h2
      have := Option.some.inj hv; subst this
      have e1 : a.eval x = u := by
        have ho := opd h x
        generalize hx : F.ev x = X at *
        have hrv := ho.rv
        cases X <;> first | (cases h1; done) | exact val1_R1 (S := G.S) (E := G.E) h1 hrv
      simp [e1, evs_vals h h2]
    · cases hv
theorem builtin_sound (h : Inv E0 w0 Z G F a w) (hd : d < F.n) {o : Oper} {b : Builtin} {args : Array Operand} {ts : Array TypeId} (ho : o.op = .call { callee := .builtin b, args, argTypes := ts }) {v : AV}
    (hv : builtinA P b ts o.type (args.map isConstOp) (evs F args.toList) = some v) : Yields E0 w0 Z lab d G F a w P o v := by
  have gen : ∀ us, vals (evs F args.toList) = some us → ∀ q, pr P (builtin b ts o.type (args.map isConstOp) us.toArray) = some (.value q) → Yields E0 w0 Z lab d G F a w P o (absV q) := by
    intro us hus q hq
    have e := evs_vals h hus
    refine Yields.same h hd (v := q) ?_ (.of_noId (absV_R1 _ _ q) (noId_absV q))
    have hargs : args.map a.eval = us.toArray := by rw [← e]; exact toArr _ _
    simp only [execOp, ho, resolve, Sem.run_bind, Sem.run_pure, Result.andThen_ok, invoke, hargs]
    refine Eq.trans ?_ (pr_run _ _ hq w)
    congr 3
  unfold builtinA at hv
  split at hv
  · rename_i rows nl own hargs
    split at hv
    · rename_i t ht
      split at hv
      · rename_i htel
        have := Option.some.inj hv; subst this
        obtain ⟨e, he⟩ := Option.isSome_iff_exists.1 htel
        obtain ⟨x, hax⟩ : ∃ x, args = #[x] := by
          have hl : (evs F args.toList).length = args.toList.length := by
            have : ∀ l : List Operand, (evs F l).length = l.length := by
              intro l; induction l with
              | nil => rfl
              | cons x l ih => simp [evs, ih]
            exact this _
          rw [hargs] at hl
          obtain ⟨l⟩ := args
          cases l with
          | nil => simp at hl
          | cons x l => cases l with
            | nil => exact ⟨x, rfl⟩
            | cons y l => simp at hl
        subst hax
        simp [evs] at hargs
        have hxr := (opd h x).rv
        rw [hargs] at hxr
        have hxr : R1 G.S G.E (.slice rows nl own) (a.eval x) := hxr
        obtain ⟨base, cap, hb⟩ : ∃ base cap, a.eval x = .slice base rows.length cap := by
          generalize a.eval x = q at *
          cases hxr
          · exact ⟨_, _, rfl⟩
          · exact ⟨_, _, rfl⟩
        refine Yields.same h hd (v := .int .i64 rows.length) ?_ (.of_noId (.at _) (nid_at _))
        simp [execOp, ho, resolve, invoke, builtin, Sem.run_bind, Builtin.len_, ht, hb, run_underlying (tel_und he), goInt]
      · cases hv
    · cases hv
  · rename_i loc off len cap sz hargs
    split at hv
    · rename_i t ht
      split at hv
      · rename_i htel
        have := Option.some.inj hv; subst this
        obtain ⟨e, he⟩ := Option.isSome_iff_exists.1 htel
        obtain ⟨x, hax⟩ : ∃ x, args = #[x] := by
          have hl : (evs F args.toList).length = args.toList.length := by
            have : ∀ l : List Operand, (evs F l).length = l.length := by
              intro l; induction l with
              | nil => rfl
              | cons x l ih => simp [evs, ih]
            exact this _
          rw [hargs] at hl
          obtain ⟨l⟩ := args
          cases l with
          | nil => simp at hl
          | cons x l => cases l with
            | nil => exact ⟨x, rfl⟩
            | cons y l => simp at hl
        subst hax
        simp [evs] at hargs
        have hxr := (opd h x).rv
        rw [hargs] at hxr
        have hxr : R1 G.S G.E (.hs loc off len cap sz) (a.eval x) := hxr
        obtain ⟨base, hb⟩ : ∃ base, a.eval x = .slice base len cap := by
          generalize a.eval x = q at *
          cases hxr
          exact ⟨_, rfl⟩
        refine Yields.same h hd (v := .int .i64 len) ?_ (.of_noId (.at _) (nid_at _))
        simp [execOp, ho, resolve, invoke, builtin, Sem.run_bind, Builtin.len_, ht, hb, run_underlying (tel_und he), goInt]
      · cases hv
    · cases hv
  · split at hv
    · rename_i us hus
      split at hv
      · rename_i q hq
        have := Option.some.inj hv; subst this
        exact gen us hus q hq
      · cases hv
    · cases hv
end

/-! ### What a call owes -/
structure CPost (w : World) (S : Addr → Option Value) (E : Nat → Option Nat) (r : AV) (H' : List (List AV)) (v : Value) (S' : Addr → Option Value) (E' : Nat → Option Nat) (φ : Nat → Rw) (w' : World) : Prop where
  bel : Bel (fun b => ∃ l, E l = some b) w w'
  sS : ∀ ad u, S ad = some u → S' ad = some u
  sN : ∀ ad : Addr, S ad = none → ad.block < w.heap.size → S' ad = none
  mem : Mem S' w'
  eS : ∀ l b, E l = some b → E' l = some b
  eN : ∀ l b, E l = none → E' l = some b → w.heap.size ≤ b ∧ b < w'.heap.size
  eH : ∀ l b, E' l = some b → l < H'.length
  heap : ∀ l cs, H'[l]? = some cs → ∃ b vs, E' l = some b ∧ Holds1 ⟨S', fun _ => none, E', fun _ => none, φ⟩ w' b cs vs
  inj : ∀ l l' b, E' l = some b → E' l' = some b → l = l'
  rv : R1 S' E' r v
  nid : NoId r
  fresh : ∀ (j : Nat) (u : Value) rows nl, (parts r)[j]? = some (.slice rows nl .fresh) → (vparts v)[j]? = some u → u = .slice (some ⟨(φ j).b, 0, none⟩) rows.length (φ j).cap ∧ nl = false ∧ rows.length = (φ j).len ∧ (∀ r ∈ rows, r.length = (φ j).sz) ∧ w.heap.size ≤ (φ j).b ∧
    (∃ vs ty, w'.heap[(φ j).b]? = some (.cells vs ty (0, 0)) ∧ vs.size = (φ j).cap * (φ j).sz) ∧ (0 < (φ j).len ∧ (φ j).len ≤ (φ j).cap) ∧ (∀ o, (φ j).len * (φ j).sz ≤ o → S' ⟨(φ j).b, o, none⟩ = none) ∧ ∀ l, E' l ≠ some (φ j).b
  apart : ∀ (j j' : Nat) rows nl rows' nl', (parts r)[j]? = some (.slice rows nl .fresh) → (parts r)[j']? = some (.slice rows' nl' .fresh) → (φ j).b = (φ j').b → j = j'

/-- The heap as a call finds it. -/
structure HPre (w : World) (S : Addr → Option Value) (E : Nat → Option Nat) (H : List (List AV)) : Prop where
  mem : Mem S w
  eH : ∀ l b, E l = some b → l < H.length
  heap : ∀ l cs, H[l]? = some cs → ∃ b vs, E l = some b ∧ Holds1 ⟨S, fun _ => none, E, fun _ => none, fun _ => ⟨0, 0, 0, 0⟩⟩ w b cs vs
  inj : ∀ l l' b, E l = some b → E l' = some b → l = l'

/-- A call that ends with a value. -/
def Does (P : Program) (g : Nat) (vs : Array Value) (w : World) (R : Value → World → Prop) : Prop :=
  (∃ v w', (callFunc g vs).run P w = .ok (.value v) w' ∧ R v w') ∨
  ((callFunc g vs).run P w = .ok (.enter g vs) w ∧ ∀ n, CallsIn Fence.wide n P g vs w fun e w' => ∃ v, e = .returned v ∧ R v w')
def CSound (P : Program) (g : Nat) (as : List AV) (H : List (List AV)) (r : AV) (H' : List (List AV)) : Prop :=
  ∀ (w : World) (S : Addr → Option Value) (E : Nat → Option Nat) (vs : List Value), HPre w S E H → (∀ x ∈ as, NoId x) → vs.length = as.length → (∀ (j : Nat) (x : AV) (v : Value), as[j]? = some x → vs[j]? = some v → R1 S E x v) →
    Does P g vs.toArray w fun v w' => ∃ S' E' φ, CPost w S E r H' v S' E' φ w'
end Go.Proofs.V
namespace Go.Proofs.V
open Go Go.RowKit
set_option linter.unusedVariables false
set_option linter.unusedSimpArgs false

theorem nohp_R1 {S : Addr → Option Value} {E E' : Nat → Option Nat} : ∀ (d : Nat) {x : AV} {v : Value}, nohp d x = true → R1 S E x v → R1 S E' x v
  | 0, x, v, h, _ => by cases x <;> simp [nohp] at h
  | d + 1, x, v, h, hr => by
    cases hr with
    | «at» v => exact .at v
    | nil own => exact .nil own
    | slice rows own b off cap sz val hlen hsz hfull hpl h1 h2 =>
      simp only [nohp, List.all_eq_true] at h
      refine .slice rows own b off cap sz val hlen hsz hfull hpl h1 (fun i j x hx => nohp_R1 d ?_ (h2 i j x hx))
      unfold cellAt at hx
      simp only [Option.bind_eq_some_iff] at hx
      obtain ⟨r, hr, hx⟩ := hx
      exact h r (List.mem_of_getElem? hr) x (List.mem_of_getElem? hx)
    | ref row off b o val hpl h1 h2 =>
      simp only [nohp, List.all_eq_true] at h
      exact .ref row off b o val hpl h1 (fun j x hx => nohp_R1 d (h x (List.mem_of_getElem? hx)) (h2 j x hx))
    | hp l off b h1 => simp [nohp] at h
    | fn f first captured fs cs hf hc h1 h2 =>
      simp only [nohp, Bool.and_eq_true, List.all_eq_true] at h
      exact .fn f first captured fs cs hf hc (fun j x v hx hv => nohp_R1 d (h.1 x (List.mem_of_getElem? hx)) (h1 j x v hx hv)) (fun j x v hx hv => nohp_R1 d (h.2 x (List.mem_of_getElem? hx)) (h2 j x v hx hv))
    | agg cs vs hl hpl h1 =>
      simp only [nohp, List.all_eq_true] at h
      exact .agg cs vs hl hpl (fun j x v hx hv => nohp_R1 d (h x (List.mem_of_getElem? hx)) (h1 j x v hx hv))
    | tup cs vs hl h1 =>
      simp only [nohp, List.all_eq_true] at h
      exact .tup cs vs hl (fun j x v hx hv => nohp_R1 d (h x (List.mem_of_getElem? hx)) (h1 j x v hx hv))
    | ifc t x v h1 =>
      simp only [nohp] at h
      exact .ifc t x v (nohp_R1 d h h1)
    | hs l off len cap sz b h1 => simp [nohp] at h

abbrev noE : Nat → Option Nat := fun _ => none
theorem CPost.drop {w w' : World} {S S' : Addr → Option Value} {E' : Nat → Option Nat} {r : AV} {H' : List (List AV)} {v : Value} {φ : Nat → Rw}
    (h : CPost w S noE r H' v S' E' φ w') (hr : H'.isEmpty = true ∨ nohp 9 r = true) : CPost w S noE r [] v S' noE φ w' where
  bel := h.bel
  sS := h.sS
  sN := h.sN
  mem := h.mem
  eS l b hb := by cases hb
  eN l b _ hb := by cases hb
  eH l b hb := by cases hb
  heap l cs hl := by simp at hl
  inj l l' b hb := by cases hb
  rv := by
    rcases hr with hr | hr
    · refine R1.mono (fun _ _ h => h) (fun l b hb => ?_) h.rv
      have := h.eH l b hb
      simp at hr; subst hr; simp at this
    · exact nohp_R1 9 hr h.rv
  nid := h.nid
  fresh j u rows nl hx hu := by
    obtain ⟨h1, h2, h3, h4, h5, h6, h7, h8, h9⟩ := h.fresh j u rows nl hx hu
    exact ⟨h1, h2, h3, h4, h5, h6, h7, h8, fun l hl => by cases hl⟩
  apart := h.apart

section
variable {E0 : Nat → Prop} {w0 : Ent} {Z : Nat → Prop} {G : Gh} {F : St} {a : Act} {w : World}

theorem Inv.objE (h : Inv E0 w0 Z G F a w) {l b : Nat} (hb : G.E l = some b) : (w0.heap.size ≤ b ∨ E0 b) ∧ G.u b = some (.obj l) ∧ b < w.heap.size := by
  have hl := h.rel.2.2.2.2 l b hb
  obtain ⟨b', vs, h1, h2, h3, h4⟩ := h.obj l F.H[l] (List.getElem?_eq_getElem hl)
  rw [hb] at h1
  cases h1
  exact ⟨h2, h3, h.live b (by rw [h3]; rfl)⟩

theorem CPost.lift (h : Inv E0 w0 Z G F a w) {w' : World} {S' : Addr → Option Value} {r : AV} {v : Value} {φ : Nat → Rw}
    (c : CPost w G.S noE r [] v S' noE φ w') : CPost w G.S G.E r F.H v S' G.E φ w' where
  bel := ⟨c.bel.os, c.bel.tape, c.bel.output, c.bel.size, fun k hk _ => c.bel.block k hk (by rintro ⟨l, hl⟩; cases hl)⟩
  sS := c.sS
  sN := c.sN
  mem := c.mem
  eS l b hb := hb
  eN l b h0 hb := by rw [h0] at hb; cases hb
  eH := h.rel.2.2.2.2
  heap l cs hl := by
    obtain ⟨b, vs, h1, h2, h3, ⟨ty, g1⟩, g2, gp, g3, g4⟩ := h.obj l cs hl
    have hb := h.live b (by rw [h3]; rfl)
    exact ⟨b, vs, h1, ⟨ty, (c.bel.block b hb (by rintro ⟨l, hl⟩; cases hl)).trans g1⟩, g2, gp, fun j x v hx hv => R1.mono c.sS (fun _ _ h => h) (g3 j x v hx hv), fun ad ha => c.sN ad (g4 ad ha) (by rw [ha]; exact hb)⟩
  inj l l' b h1 h2 := by
    have e1 := (h.objE h1).2.1
    have e2 := (h.objE h2).2.1
    rw [e1] at e2
    cases e2
    rfl
  rv := R1.mono (fun _ _ h => h) (fun l b hb => by cases hb) c.rv
  nid := c.nid
  fresh j u rows nl hx hu := by
    obtain ⟨h1, h2, h3, h4, h5, h6, h7, h8, h9⟩ := c.fresh j u rows nl hx hu
    exact ⟨h1, h2, h3, h4, h5, h6, h7, h8, fun l hl => by have := (h.objE hl).2.2; omega⟩
  apart := c.apart

theorem R1.parts {S : Addr → Option Value} {E : Nat → Option Nat} {r : AV} {v : Value} (h : R1 S E r v) {j : Nat} {rows : List (List AV)} {nl : Bool} {own : Own}
    (hj : (V.parts r)[j]? = some (.slice rows nl own)) : ∃ u, (vparts v)[j]? = some u := by
  cases h with
  | «at» v => cases j <;> simp [V.parts] at hj
  | agg cs vs hl hpl h =>
    simp only [V.parts] at hj
    have : j < cs.length := (List.getElem?_eq_some_iff.1 hj).1
    exact ⟨vs[j]'(by omega), by simp only [vparts]; exact List.getElem?_eq_getElem (by simpa using by omega)⟩
  | tup cs vs hl h =>
    simp only [V.parts] at hj
    have : j < cs.length := (List.getElem?_eq_some_iff.1 hj).1
    exact ⟨vs[j]'(by omega), by simp only [vparts]; exact List.getElem?_eq_getElem (by simpa using by omega)⟩
  | nil own => cases j with
    | zero => exact ⟨_, rfl⟩
    | succ j => simp [V.parts] at hj
  | slice rows own b off cap sz val hlen hsz hfull hpl h1 h2 => cases j with
    | zero => exact ⟨_, rfl⟩
    | succ j => simp [V.parts] at hj
  | ref row off b o val hpl h1 h2 => cases j <;> simp [V.parts] at hj
  | hp l off b h => cases j <;> simp [V.parts] at hj
  | fn f first captured fs cs hf hc h1 h2 => cases j <;> simp [V.parts] at hj
  | ifc t x v h => cases j <;> simp [V.parts] at hj
  | hs l off len cap sz b h => cases j <;> simp [V.parts] at hj

theorem freshAt_iff : ∀ (l : List AV) (lab n : Nat), freshAt lab l n = true → ∃ j rows nl, l[j]? = some (.slice rows nl .fresh) ∧ n = lab + j
  | [], lab, n, h => by simp [freshAt] at h
  | x :: xs, lab, n, h => by
    have key : freshAt (lab + 1) xs n = true → ∃ j rows nl, (x :: xs)[j]? = some (.slice rows nl .fresh) ∧ n = lab + j := fun h => by
      obtain ⟨j, rows, nl, h1, h2⟩ := freshAt_iff _ _ _ h
      exact ⟨j + 1, rows, nl, by simpa using h1, by omega⟩
    cases x with
    | slice rows nl own =>
      cases own with
      | fresh =>
        simp only [freshAt, Bool.or_eq_true, beq_iff_eq] at h
        rcases h with h | h
        · exact ⟨0, rows, nl, rfl, by omega⟩
        · exact key h
      | _ => exact key h
    | _ => exact key h
theorem freshR_iff {r : AV} {lab n : Nat} (h : freshR lab r n = true) : ∃ j rows nl, (parts r)[j]? = some (.slice rows nl .fresh) ∧ n = lab + j := by
  cases r with
  | tup cs => exact freshAt_iff _ _ _ h
  | agg cs => exact freshAt_iff _ _ _ h
  | slice rows nl own =>
    cases own with
    | fresh =>
      simp only [freshR, beq_iff_eq] at h
      exact ⟨0, rows, nl, rfl, by omega⟩
    | _ => cases h
  | _ => cases h
theorem sizeR_parts {r : AV} (hr : ∀ g cs, r ≠ .box g cs) {j : Nat} {x : AV} (h : (parts r)[j]? = some x) : j < sizeR r := by
  have := (List.getElem?_eq_some_iff.1 h).1
  cases r with
  | box g cs => exact (hr g cs rfl).elim
  | _ => simpa [parts, sizeR] using this
theorem R1.nobox {S : Addr → Option Value} {E : Nat → Option Nat} {r : AV} {v : Value} (h : R1 S E r v) : ∀ g cs, r ≠ .box g cs := by
  rintro g cs rfl
  cases h

open Classical in
/-- What is known behind a call. -/
noncomputable def Gcall (G : Gh) (w : World) (lab : Nat) (r : AV) (S' : Addr → Option Value) (E' : Nat → Option Nat) (φ : Nat → Rw) : Gh where
  S := S'
  B := G.B
  E := E'
  u b := if b < w.heap.size then G.u b else if h : ∃ l, E' l = some b then some (.obj h.choose) else if h : ∃ j, (∃ rows nl, (parts r)[j]? = some (.slice rows nl .fresh)) ∧ (φ j).b = b then some (.row (lab + h.choose)) else none
  ρ n := if lab ≤ n ∧ n < lab + 64 then φ (n - lab) else G.ρ n

theorem RV.mono {G G' : Gh} (hS : ∀ a v, G.S a = some v → G'.S a = some v) (hE : ∀ l b, G.E l = some b → G'.E l = some b) (hB : ∀ l b, G.B l = some b → G'.B l = some b) {x : AV} {v : Value} (h : RV G x v) : RV G' x v := by
  cases x with
  | fp a b c => obtain ⟨k, h1, h2⟩ := h; exact ⟨k, hB _ _ h1, h2⟩
  | box a b => obtain ⟨k, h1, h2⟩ := h; exact ⟨k, hB _ _ h1, h2⟩
  | _ => exact R1.mono hS hE h

theorem inv_move (h : Inv E0 w0 Z G F a w) {w' : World} {S' : Addr → Option Value} {E' : Nat → Option Nat} {r : AV} {H' : List (List AV)} {v : Value} {φ : Nat → Rw} {lab : Nat} {al' : Nat → Bool}
    (c : CPost w G.S G.E r H' v S' E' φ w') (hz : ∀ n, Z n → ¬ (lab ≤ n ∧ n < lab + 64)) (hal : ∀ n, al' n = true → F.al n = true ∨ (freshR lab r n = true ∧ sizeR r ≤ 64)) :
    Inv E0 w0 (fun n => Z n ∨ (lab ≤ n ∧ n < lab + 64)) (Gcall G w lab r S' E' φ) { F with H := H', al := al' } a w' := by
  have hfr : ∀ {n}, (freshR lab r n = true ∧ sizeR r ≤ 64) → lab ≤ n ∧ n < lab + 64 := by
    rintro n ⟨hn, hsz⟩
    obtain ⟨j, rows, nl, h1, h2⟩ := freshR_iff hn
    have := sizeR_parts c.rv.nobox h1
    omega
  have hE : ∀ l b, G.E l = some b → E' l = some b := c.eS
  have hold : ∀ b, b < w.heap.size → (∀ l, G.E l ≠ some b) → w'.heap[b]? = w.heap[b]? := fun b hb hl => c.bel.block b hb (by rintro ⟨l, h⟩; exact hl l h)
  have hu : ∀ b, b < w.heap.size → (Gcall G w lab r S' E' φ).u b = G.u b := fun b hb => by simp [Gcall, hb]
  have hρ : ∀ n, Z n → (Gcall G w lab r S' E' φ).ρ n = G.ρ n := fun n hn => by simp only [Gcall]; rw [if_neg (hz n hn)]
  have hala : ∀ n, Z n → al' n = true → F.al n = true := fun n hn ha => (hal n ha).resolve_right (fun hf => hz n hn (hfr hf))
  have hCl1 : ∀ {x : AV} {u : Value}, (∀ rows nl n, x = .slice rows nl (.id n) → Z n) → Cl1 G F.al x u → Cl1 (Gcall G w lab r S' E' φ) al' x u := by
    intro x u hx hc rows nl n he ha
    rw [hρ n (hx rows nl n he)]
    exact hc rows nl n he (hala n (hx rows nl n he) ha)
  refine ⟨h.nsz, h.df, fun i => RV.mono (G := G) (G' := Gcall G w lab r S' E' φ) c.sS c.eS (fun _ _ h => h) (h.slot i), fun i hb j y u hy hu' => hCl1 (fun rows nl n he => h.ids i n ⟨y, List.mem_of_getElem? hy, rows, nl, he⟩) (h.cl i hb j y u hy hu'),
    fun i n hi => .inl (h.ids i n hi), c.mem, ⟨c.bel.os.trans h.bel.os, c.bel.tape.trans h.bel.tape, c.bel.output.trans h.bel.output, Nat.le_trans h.bel.size c.bel.size, fun k hk he => ?_⟩,
    ⟨fun ad v hv => c.sS _ _ (h.rel.1 ad v hv), fun ad h0 hb he => c.sN _ (h.rel.2.1 ad h0 hb he) (Nat.lt_of_lt_of_le hb h.bel.size), fun l b hb => c.eS _ _ (h.rel.2.2.1 l b hb), fun l b h0 hb => ?_, c.eH⟩, fun i g cs hc => ?_, fun n ha => ?_, fun l cs hl => ?_,
    fun g b hb => .inl (h.zB g b hb), fun n ha => ?_, fun b hb => ?_, fun b o hb => by
      obtain ⟨p1, p2, p3⟩ := h.pro b o hb
      have hlt := (Array.getElem?_eq_some_iff.1 p1).1
      exact ⟨(hold b hlt fun l hl => by
        have := (h.objE hl).2.1
        rw [p2] at this
        cases this).trans p1, (hu b hlt).trans p2, fun hf ad ha => c.sN ad (p3 hf ad ha) (by rw [ha]; exact hlt)⟩, h.bm⟩
  · refine (c.bel.block k (Nat.lt_of_lt_of_le hk h.bel.size) ?_).trans (h.bel.block k hk he)
    rintro ⟨l, hl⟩
    rcases (h.objE hl).1 with h1 | h1
    · omega
    · exact he h1
  · have hb : E' l = some b := hb
    cases hl : G.E l with
    | none =>
      have := (c.eN l b hl hb).1
      have := h.bel.size
      show w0.heap.size ≤ b
      omega
    | some b' =>
      have := c.eS l b' hl
      rw [hb] at this
      cases this
      exact h.rel.2.2.2.1 l b h0 hl
  · obtain ⟨b, vs, h1, h2, h3, ⟨⟨ty, g1⟩, g2, gp, g3, g4⟩, h5⟩ := h.box i g cs hc
    have hb := h.live b (by rw [h3]; rfl)
    refine ⟨b, vs, h1, h2, (hu b hb).trans h3, ⟨⟨ty, (hold b hb fun l hl => ?_).trans g1⟩, g2, gp, fun j x v hx hv => R1.mono c.sS c.eS (g3 j x v hx hv), fun ad ha => c.sN ad (g4 ad ha) (by rw [ha]; exact hb)⟩, fun j x v hx hv => hCl1 (fun rows nl n he => h.ids i n ?_) (h5 j x v hx hv)⟩
    · have := (h.objE hl).2.1
      rw [h3] at this
      cases this
    · rw [show F.t i = .box g cs from hc]
      exact ⟨x, List.mem_of_getElem? hx, rows, nl, he⟩
  · have ha : al' n = true := ha
    rcases hal n ha with ho | hf
    · obtain ⟨h1, h2, ⟨vs, ty, h3, h3'⟩, h4, h5⟩ := h.row n ho
      have hb := h.live _ (by rw [h2]; rfl)
      rw [hρ n (h.zal n ho)]
      refine ⟨h1, (hu _ hb).trans h2, ⟨vs, ty, (hold _ hb fun l hl => ?_).trans h3, h3'⟩, h4, fun o ho => c.sN _ (h5 o ho) hb⟩
      have := (h.objE hl).2.1
      rw [h2] at this
      cases this
    · obtain ⟨hf, hsz⟩ := hf
      obtain ⟨j, rows, nl, hp, rfl⟩ := freshR_iff hf
      have hj := sizeR_parts c.rv.nobox hp
      obtain ⟨u, hu'⟩ := c.rv.parts hp
      obtain ⟨h1, h2, h3, h4, h5, h6, h7, h8, h9⟩ := c.fresh j u rows nl hp hu'
      have hr' : (Gcall G w lab r S' E' φ).ρ (lab + j) = φ j := by
        simp only [Gcall]
        rw [if_pos (by omega)]
        congr 1
        omega
      rw [hr']
      refine ⟨Nat.le_trans h.bel.size h5, ?_, h6, h7, h8⟩
      have hex : ∃ k, (∃ rows nl, (parts r)[k]? = some (.slice rows nl .fresh)) ∧ (φ k).b = (φ j).b := ⟨j, ⟨rows, nl, hp⟩, rfl⟩
      simp only [Gcall]
      rw [if_neg (by omega), dif_neg (by rintro ⟨l, hl⟩; exact h9 l hl), dif_pos hex]
      obtain ⟨⟨rows', nl', hp'⟩, he⟩ := hex.choose_spec
      rw [c.apart _ _ _ _ _ _ hp' hp he]
  · obtain ⟨b, vs, h1, h2⟩ := c.heap l cs hl
    refine ⟨b, vs, h1, ?_, ?_, h2⟩
    · cases hE1 : G.E l with
      | none => exact .inl (Nat.le_trans h.bel.size (c.eN l b hE1 h1).1)
      | some b' =>
        have := c.eS l b' hE1
        rw [h1] at this
        cases this
        exact (h.objE hE1).1
    · cases hE1 : G.E l with
      | none =>
        have hb := (c.eN l b hE1 h1).1
        have hex : ∃ l, E' l = some b := ⟨l, h1⟩
        simp only [Gcall]
        rw [if_neg (by omega), dif_pos hex]
        rw [c.inj _ _ _ hex.choose_spec h1]
      | some b' =>
        have := c.eS l b' hE1
        rw [h1] at this
        cases this
        exact (hu b (h.objE hE1).2.2).trans (h.objE hE1).2.1
  · rcases hal n ha with ho | hf
    · exact .inl (h.zal n ho)
    · exact .inr (hfr hf)
  · simp only [Gcall] at hb
    split at hb
    · rename_i hlt
      exact Nat.lt_of_lt_of_le hlt c.bel.size
    · split at hb
      · rename_i hge hex
        obtain ⟨l, hl⟩ := hex
        obtain ⟨b', vs, h1, ⟨ty, h2⟩, _⟩ := c.heap l (H'[l]'(c.eH l b hl)) (List.getElem?_eq_getElem (c.eH l b hl))
        rw [hl] at h1
        cases h1
        rcases Nat.lt_or_ge b w'.heap.size with h | h
        · exact h
        · rw [Array.getElem?_eq_none h] at h2; cases h2
      · split at hb
        · rename_i hge hnex hex
          obtain ⟨j, ⟨rows, nl, hp⟩, rfl⟩ := hex
          obtain ⟨u, hu'⟩ := c.rv.parts hp
          obtain ⟨h1, h2, h3, h4, h5, ⟨vs, ty, h6, _⟩, h7, h8, h9⟩ := c.fresh j u rows nl hp hu'
          rcases Nat.lt_or_ge (φ j).b w'.heap.size with h | h
          · exact h
          · rw [Array.getElem?_eq_none h] at h6; cases h6
        · cases hb
end

theorem adopt_R1 {S : Addr → Option Value} {E : Nat → Option Nat} {lab : Nat} {x : AV} {v : Value} (h : R1 S E x v) : R1 S E (adopt lab x) v := by
  cases h with
  | nil own => cases own <;> exact .nil _
  | slice rows own b off cap sz val hlen hsz hfull hpl h1 h2 =>
    cases own with
    | no => exact .slice rows .no b off cap sz val hlen hsz (by intro h; cases h) hpl h1 h2
    | full => exact .slice rows .full b off cap sz val hlen hsz hfull hpl h1 h2
    | fresh => exact .slice rows (.id lab) b off cap sz val hlen hsz (by intro h; cases h) hpl h1 h2
    | id n => exact .slice rows (.id n) b off cap sz val hlen hsz (by intro h; cases h) hpl h1 h2
  | «at» v => exact .at v
  | ref row off b o val hpl h1 h2 => exact .ref row off b o val hpl h1 h2
  | hp l off b h => exact .hp l off b h
  | fn f first captured fs cs hf hc h1 h2 => exact .fn f first captured fs cs hf hc h1 h2
  | agg cs vs hl hpl h => exact .agg cs vs hl hpl h
  | tup cs vs hl h => exact .tup cs vs hl h
  | ifc t x v h => exact .ifc t x v h
  | hs l off len cap sz b h => exact .hs l off len cap sz b h
theorem adoptAt_get : ∀ (l : List AV) (lab j : Nat), (adoptAt lab l)[j]? = (l[j]?).map (adopt (lab + j))
  | [], lab, j => by simp [adoptAt]
  | x :: xs, lab, 0 => by simp [adoptAt]
  | x :: xs, lab, j + 1 => by simp [adoptAt, adoptAt_get xs (lab + 1) j]; congr 2; omega
theorem adoptAt_len : ∀ (l : List AV) (lab : Nat), (adoptAt lab l).length = l.length
  | [], _ => rfl
  | x :: xs, lab => by simp [adoptAt, adoptAt_len xs]
theorem plain_adopt (lab : Nat) (x : AV) : (adopt lab x).plain = x.plain := by
  unfold adopt; split <;> rfl
theorem adoptR_R1 {S : Addr → Option Value} {E : Nat → Option Nat} {lab : Nat} {x : AV} {v : Value} (h : R1 S E x v) : R1 S E (adoptR lab x) v := by
  cases h with
  | agg cs vs hl hpl h =>
    refine .agg _ _ (by rw [adoptAt_len]; exact hl) (fun x hx => ?_) (fun j x v hx hv => ?_)
    · obtain ⟨j, hj⟩ := List.getElem?_of_mem hx
      rw [adoptAt_get] at hj
      simp only [Option.map_eq_some_iff] at hj
      obtain ⟨y, hy, rfl⟩ := hj
      rw [plain_adopt]
      exact hpl y (List.mem_of_getElem? hy)
    · rw [adoptAt_get] at hx
      simp only [Option.map_eq_some_iff] at hx
      obtain ⟨y, hy, rfl⟩ := hx
      exact adopt_R1 (h j y v hy hv)
  | tup cs vs hl h =>
    refine .tup _ _ (by rw [adoptAt_len]; exact hl) (fun j x v hx hv => ?_)
    rw [adoptAt_get] at hx
    simp only [Option.map_eq_some_iff] at hx
    obtain ⟨y, hy, rfl⟩ := hx
    exact adopt_R1 (h j y v hy hv)
  | «at» v => exact .at v
  | nil own => exact adopt_R1 (.nil own)
  | slice rows own b off cap sz val hlen hsz hfull hpl h1 h2 => exact adopt_R1 (.slice rows own b off cap sz val hlen hsz hfull hpl h1 h2)
  | ref row off b o val hpl h1 h2 => exact .ref row off b o val hpl h1 h2
  | hp l off b h => exact .hp l off b h
  | fn f first captured fs cs hf hc h1 h2 => exact .fn f first captured fs cs hf hc h1 h2
  | ifc t x v h => exact .ifc t x v h
  | hs l off len cap sz b h => exact .hs l off len cap sz b h
theorem parts_adoptR {r : AV} (hr : ∀ g cs, r ≠ .box g cs) (lab j : Nat) : (parts (adoptR lab r))[j]? = ((parts r)[j]?).map (adopt (lab + j)) := by
  cases r with
  | agg cs => exact adoptAt_get cs lab j
  | tup cs => exact adoptAt_get cs lab j
  | box g cs => exact (hr g cs rfl).elim
  | slice rows nl own => cases j <;> cases own <;> simp [adoptR, adopt, parts]
  | _ => cases j <;> simp [adoptR, adopt, parts]
theorem adopt_id {lab : Nat} {x : AV} {rows : List (List AV)} {nl : Bool} {n : Nat} (h : adopt lab x = .slice rows nl (.id n)) : (x = .slice rows nl .fresh ∧ n = lab) ∨ x = .slice rows nl (.id n) := by
  unfold adopt at h
  split at h
  · cases h; exact .inl ⟨rfl, rfl⟩
  · exact .inr h

section
variable {E0 : Nat → Prop} {w0 : Ent} {Z : Nat → Prop} {G : Gh} {F : St} {a : Act} {w : World}

theorem inv_call (h : Inv E0 w0 Z G F a w) {w' : World} {S' : Addr → Option Value} {E' : Nat → Option Nat} {r : AV} {H' : List (List AV)} {v : Value} {φ : Nat → Rw} {lab d : Nat}
    (c : CPost w G.S G.E r H' v S' E' φ w') (hz : ∀ n, Z n → ¬ (lab ≤ n ∧ n < lab + 64)) (hsz : sizeR r ≤ 64) (hd : d < F.n) :
    Inv E0 w0 (fun n => Z n ∨ (lab ≤ n ∧ n < lab + 64)) (Gcall G w lab r S' E' φ) { F with H := H', al := markR lab F.al r, t := upd F.t d (adoptR lab r) } (a.put (some d) v) w' := by
  have hm := inv_move h c hz (al' := markR lab F.al r) (fun n hn => Or.imp id (fun h => ⟨h, hsz⟩) (show F.al n = true ∨ freshR lab r n = true by simpa [markR] using hn))
  have hbox := c.rv.nobox
  have hr := adoptR_R1 (lab := lab) c.rv
  refine hm.set hd hr.nobox (RV_of hr) ?_ ?_
  · intro j y u hy hu rows nl n he ha
    subst he
    rw [parts_adoptR hbox] at hy
    simp only [Option.map_eq_some_iff] at hy
    obtain ⟨x, hx, hxy⟩ := hy
    rcases adopt_id hxy with ⟨rfl, rfl⟩ | rfl
    · obtain ⟨h1, h2, h3, h4, h5, h6, h7, h8, h9⟩ := c.fresh j u rows nl hx hu
      have hj := sizeR_parts hbox hx
      have hr' : (Gcall G w lab r S' E' φ).ρ (lab + j) = φ j := by
        simp only [Gcall]
        rw [if_pos (by omega)]
        congr 1
        omega
      rw [hr']
      exact ⟨h1, h2, h3, h4⟩
    · exact (c.nid n ⟨_, List.mem_of_getElem? hx, rows, nl, rfl⟩).elim
  · rintro n ⟨y, hy, rows, nl, rfl⟩
    obtain ⟨j, hj⟩ := List.getElem?_of_mem hy
    rw [parts_adoptR hbox] at hj
    simp only [Option.map_eq_some_iff] at hj
    obtain ⟨x, hx, hxy⟩ := hj
    rcases adopt_id hxy with ⟨rfl, rfl⟩ | rfl
    · have hj := sizeR_parts hbox hx
      exact .inr (by omega)
    · exact (c.nid n ⟨_, List.mem_of_getElem? hx, rows, nl, rfl⟩).elim

/-- The same, where the result keeps no marks. -/
theorem inv_call_bare (h : Inv E0 w0 Z G F a w) {w' : World} {S' : Addr → Option Value} {E' : Nat → Option Nat} {r : AV} {H' : List (List AV)} {v : Value} {φ : Nat → Rw} {lab d : Nat}
    (c : CPost w G.S G.E r H' v S' E' φ w') (hz : ∀ n, Z n → ¬ (lab ≤ n ∧ n < lab + 64)) (hd : d < F.n) :
    Inv E0 w0 (fun n => Z n ∨ (lab ≤ n ∧ n < lab + 64)) (Gcall G w lab r S' E' φ) { F with H := H', t := upd F.t d (strip r) } (a.put (some d) v) w' := by
  have hm := inv_move h c hz (al' := F.al) (fun n hn => .inl hn)
  have hr := strip_R1 c.rv
  refine hm.set hd hr.nobox (RV_of hr) (Cl_of_noId (noId_strip c.rv.nobox)) ?_
  intro n hn
  exact (noId_strip c.rv.nobox n hn).elim
end
end Go.Proofs.V
