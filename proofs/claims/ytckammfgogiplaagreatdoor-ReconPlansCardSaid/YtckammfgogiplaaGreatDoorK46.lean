/- ReconMerges, walked. -/
import Derived.Test.YtckammfgogiplaaGreatDoorK44
import Derived.Test.YtckammfgogiplaaGreatDoorK45
import Derived.Laws.AppendOwnNone
import Derived.Laws.OwnMore
namespace Go.Proofs.W.Q10
open Go Go.Proofs Go.Proofs.V Go.Proofs.V.U10 Go.Proofs.V.R10 Go.Proofs.W Go.RowKit
set_option linter.unusedVariables false
set_option linter.unusedSimpArgs false
set_option maxRecDepth 100000
theorem refsame_refl (a : List V.R10.En) (hl : a.length < 1000000000) : ref09_Same (a, a) = some true := by
  unfold ref09_Same
  dsimp only
  rw [if_neg (by simp)]
  refine Q9.loop_true a.length (by omega) (fun again => by rw [if_neg (by simp)]) fun i hi again ha => ?_
  rw [if_pos (by simp; omega), ixL_nat hi, ixL_nat hi, wrap_succ (by omega), if_neg (by simp), ha]
theorem Sl.len {w : World} {v : Value} {l : List V.R10.En} (h : Sl w v l) : ∃ ao cap, v = .slice ao l.length cap := by
  rcases h with ⟨rfl, rfl⟩ | ⟨b, off, cap, rfl, _⟩
  · exact ⟨none, 0, rfl⟩
  · exact ⟨_, cap, rfl⟩
theorem wpList_appendE {w : World} {ops : Array Oper} {rest : List Oper} {o : Oper} {a : Act} {Q : Exit → Act → World → Prop} (hgd : o.guard = none) (s x : Operand)
    (ho : o.op = .call { callee := .builtin .append, args := #[s, x], argTypes := #[22, 22] }) (base : Nat) (v : Value) (n : Nat) (xs : List Value) (l : List V.R10.En) (vl : Value) (hs : a.eval s = v) (hown : w.ownsRow base 34 5 v n xs)
    (hx : a.eval x = vl) (hsl : Sl w vl l) (hn : n ≤ 2000) (hl : l.length ≤ 1000) (hbase : base ≤ w.heap.size)
    (h : ∀ v' w', w'.ownsRow base 34 5 v' (n + l.length) (xs ++ l.flatMap cellsE) → w.grownBy w' v.ownBlock → wpList Tryz.prog ops Q rest (a.put o.dst v') w') : wpList Tryz.prog ops Q (o :: rest) a w := by
  obtain ⟨i0, hi, hz0, hz1, hz2⟩ := info_parts info34
  rcases hsl with ⟨rfl, rfl⟩ | ⟨b, off, cap, rfl, hc, hR⟩
  · refine wpList_append_own_none hgd s x 22 ho base 34 i0 5 Tryz.underlying22 hi v n xs hs hown hx (h v w (by simpa using hown) ⟨rfl, rfl, rfl, Nat.le_refl _, fun _ _ _ => rfl⟩)
  · exact wpList_append_own w hgd s x 22 ho base 34 i0 _ 5 56 Tryz.underlying22 hi hz0 hz1 hz2 rfl (by decide) v n xs hs hown ⟨b, off, none⟩ l.length cap (l.flatMap cellsE) hx (cellsE_len l) (fun j u hu => by rw [addr_off]; exact rows_cells hR j u hu) (oneCells l) (by unfold maxLen; omega) (by omega) hbase fun v' w' h1 h2 _ => h v' w' h1 h2
theorem merge_lens {a b : List V.R10.En} (ha : Mid a) (hb : Mid b) {y : List V.R10.En × (List (List UInt8) × Int)} (hy : recon_Merge (a, b) = some y) : y.1.length ≤ 128 ∧ y.2.1.length ≤ 128 := by
  rcases merge_all ha hb with ⟨_, h⟩ | ⟨_, _, hm, h⟩ | ⟨h1, h2, hm, h⟩
  · rw [h] at hy; cases hy; exact ⟨by simp, by simp⟩
  · rw [h] at hy; cases hy; exact ⟨by simp, by simp⟩
  · rw [h] at hy; cases hy; exact ⟨mrg_len a b ha hb, cnf_len a b ha hb⟩
theorem dec_enc (l : List V.R10.En) : decL reE (l.map (encR reE)) = some l := decL_of reE rfl l _ (rows_enc reE rfl l)
end Go.Proofs.W.Q10
namespace Go.Proofs.W.Q10
open Go Go.Proofs Go.Proofs.V Go.Proofs.V.U10 Go.Proofs.V.R10 Go.Proofs.W Go.RowKit
set_option linter.unusedVariables false
set_option linter.unusedSimpArgs false
set_option maxRecDepth 100000
theorem reftick_ok {c : Int × Int} (h : Q9.ClOk c) (n : Int) : ref02_Tick (c.1, (c.2, n)) = some (Q9.tickZ c n) := by
  have hf := fit_ok h
  obtain ⟨a, b, rfl, ha, hb⟩ := h.nat
  unfold ref02_Tick
  dsimp only at hf ⊢
  rw [hf, Option.bind_some]
  have hc : ∀ k : Nat, k ≤ 1073741824 → ref02_clamp (IntKind.wrap .i64 ((k : Int) + 1)) = some ((min (k + 1) 1073741824 : Nat) : Int) := fun k hk => by
    rw [wrap_succ (by omega)]
    unfold ref02_clamp
    congr 1
    by_cases h1 : 1073741824 < ((k + 1 : Nat) : Int)
    · rw [if_pos h1, if_pos (by decide)]; omega
    · rw [if_neg h1, if_pos (by omega)]; omega
  show (if (bitsI .and .i64 n 1 == 1) = true then _ else _) = _
  rw [show (bitsI .and .i64 n 1 == 1) = Q9.oddB n from rfl]
  cases hn : Q9.oddB n with
  | true =>
    rw [if_pos rfl, hc b hb, Option.bind_some]
    simp [Q9.tickZ, Q9.tickN, hn]
  | false =>
    rw [if_neg (by simp), hc a ha, Option.bind_some]
    simp [Q9.tickZ, Q9.tickN, hn]
theorem place_calls {v : Value} {l : List V.R10.En} {p : List UInt8} {r : Int} {w : World} (hs : Sl w v l) (hr : ref10_place (l, p) = some r) : Calls Tryz.prog 43 #[v, .string ⟨⟨p⟩⟩] w fun e w' => e = .returned (.int .i64 r) ∧ Below w.heap.size w w' := by
  obtain ⟨nl, h1, _, h2⟩ := cells_sl hs
  refine calls_val (vs := [v, .string ⟨⟨p⟩⟩]) (s_ref10_place (z := fun _ => none)) (x := (l, p)) hr (xs := [.slice (l.map (encR reE)) nl .no, .at (.string ⟨⟨p⟩⟩)]) ⟨[cellW (.sl reE) l, .str false p], rfl, sl_args h1, .str _ _, trivial⟩ (by kernel_rfl) Tryz.func43 rfl (by kernel_rfl) (fun x hx => ?_) rfl (fun j x v hx hv => ?_) (fun rv h => res_int h)
  · simp at hx; rcases hx with rfl | rfl
    · exact noId_sl _ _
    · exact noId_at _
  · match j with
    | 0 => cases hx; cases hv; exact h2
    | 1 => cases hx; cases hv; exact .at _
    | j + 2 => simp at hx
theorem res_P {c : Int × Int} {rv : AV} (h : ResR [.agg [.c (.int .i64), .c (.int .i64)]] c rv) : ∀ S E v, R1 S E rv v → v = valP c := by
  obtain ⟨ws, vs, h1, rfl, h2⟩ := h
  have h1' : ws = [wvP c] := by
    have : some ([wvP c], ([] : List WV)) = some (ws, []) := h1
    cases this; rfl
  subst h1'
  rcases vs with _ | ⟨v, _ | ⟨_, _⟩⟩ <;> first | exact h2.elim | exact h2.2.elim | skip
  have e1 := wr_P_inv h2.1.1
  subst e1
  intro S E u hu
  exact r1_P_inv hu
theorem refjoin_calls {c d e' : Int × Int} {w : World} (hr : ref02_Join (c.1, (c.2, (d.1, d.2))) = some e') : Calls Tryz.prog 56 #[.agg #[.int .i64 c.1, .int .i64 c.2], .agg #[.int .i64 d.1, .int .i64 d.2]] w fun e w' => e = .returned (.agg #[.int .i64 e'.1, .int .i64 e'.2]) ∧ Below w.heap.size w w' := by
  refine calls_val (vs := [valP c, valP d]) (s_ref02_Join (z := fun _ => none)) hr (xs := [aggP c, aggP d]) ⟨[wvP c, wvP d], rfl, wr_P c, wr_P d, trivial⟩ (by kernel_rfl) Tryz.func56 rfl (by kernel_rfl) (fun x hx => ?_) rfl (fun j x v hx hv => ?_) (fun rv h => res_P h)
  · simp at hx; rcases hx with rfl | rfl <;> exact noId_P _
  · match j with
    | 0 => cases hx; cases hv; exact r1_P _ _ _
    | 1 => cases hx; cases hv; exact r1_P _ _ _
    | j + 2 => simp at hx
theorem reftick_calls {c e' : Int × Int} {n : Int} {w : World} (hr : ref02_Tick (c.1, (c.2, n)) = some e') : Calls Tryz.prog 57 #[.agg #[.int .i64 c.1, .int .i64 c.2], .int .i64 n] w fun e w' => e = .returned (.agg #[.int .i64 e'.1, .int .i64 e'.2]) ∧ Below w.heap.size w w' := by
  refine calls_val (vs := [valP c, .int .i64 n]) (s_ref02_Tick (z := fun _ => none)) hr (xs := [aggP c, .at (.int .i64 n)]) ⟨[wvP c, .int .i64 false n], rfl, wr_P c, .int _ _ _, trivial⟩ (by kernel_rfl) Tryz.func57 rfl (by kernel_rfl) (fun x hx => ?_) rfl (fun j x v hx hv => ?_) (fun rv h => res_P h)
  · simp at hx; rcases hx with rfl | rfl
    · exact noId_P _
    · exact noId_at _
  · match j with
    | 0 => cases hx; cases hv; exact r1_P _ _ _
    | 1 => cases hx; cases hv; exact .at _
    | j + 2 => simp at hx
theorem refmay_calls {v : Value} {l : List V.R10.En} {r : Int} {w : World} (hs : Sl w v l) (hr : ref10_may l = some r) : Calls Tryz.prog 42 #[v] w fun e w' => e = .returned (.int .i64 r) ∧ Below w.heap.size w w' := by
  obtain ⟨nl, h1, _, h2⟩ := cells_sl hs
  refine calls_val (vs := [v]) (s_ref10_may (z := fun _ => none)) (x := l) hr (xs := [.slice (l.map (encR reE)) nl .no]) ⟨[cellW (.sl reE) l], rfl, sl_args h1, trivial⟩ (by kernel_rfl) Tryz.func42 rfl (by kernel_rfl) (fun x hx => ?_) rfl (fun j x v hx hv => ?_) (fun rv h => res_int h)
  · simp at hx; subst hx; exact noId_sl _ _
  · match j with
    | 0 => cases hx; cases hv; exact h2
    | j + 1 => simp at hx
theorem slS_form {w : World} {v : Value} {cs : List (List UInt8)} (h : SlS w v cs) : (v = .slice none 0 0 ∧ cs = []) ∨ ∃ b off cap, v = .slice (some ⟨b, off, none⟩) cs.length cap ∧ ∀ i s, cs[i]? = some s → w.cell? ⟨b, off + i, none⟩ = some (.string ⟨⟨s⟩⟩) := by
  obtain ⟨nl, h1, h⟩ := h
  generalize hg : cs.map (encR (.one .str)) = rows at h
  cases h with
  | nil => exact .inl ⟨rfl, h1 rfl⟩
  | slice rows own b off cap sz val hlen hsz hfull hpl hS hR =>
    have hl : rows.length = cs.length := by rw [← hg, List.length_map]
    refine .inr ⟨b, off, cap, by rw [hl], fun i s hs => ?_⟩
    have hc : cellAt rows i 0 = some (.at (.string ⟨⟨s⟩⟩)) := by
      rw [← hg]
      unfold cellAt
      rw [List.getElem?_map, hs]
      rfl
    have h1 : sz = 1 := (hsz (encR (.one .str) s) (by rw [← hg]; exact List.mem_map.2 ⟨s, List.mem_of_getElem? hs, rfl⟩)).symm
    have k1 := hS _ _ _ hc
    have k2 := hR _ _ _ hc
    have k3 : val i 0 = .string ⟨⟨s⟩⟩ := by
      generalize val i 0 = q at k2
      cases k2; rfl
    rw [k3, h1] at k1
    have k4 : w.cell? ⟨b, off + (i * 1 + 0), none⟩ = some (.string ⟨⟨s⟩⟩) := k1
    simpa using k4
end Go.Proofs.W.Q10
