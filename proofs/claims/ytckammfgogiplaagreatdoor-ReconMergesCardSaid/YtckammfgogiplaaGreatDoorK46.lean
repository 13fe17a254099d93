/- ReconMerges, walked. -/
import Derived.Test.YtckammfgogiplaaGreatDoorK44
import Derived.Test.YtckammfgogiplaaGreatDoorK45
import Derived.Laws.AppendOwnNone
import Derived.Laws.OwnMore
namespace Go.Proofs.W.Q10
open Go Go.Proofs Go.Proofs.V Go.Proofs.V.U10 Go.Proofs.V.R10 Go.Proofs.W Go.RowKit
set_option linter.unusedVariables false
set_option linter.unusedSimpArgs false
set_option maxRecDepth 100000
theorem refsame_refl (a : List V.R10.En) (hl : a.length < 1000000000) : ref09_Same (a, a) = some true := by
  unfold ref09_Same
  dsimp only
  rw [if_neg (by simp)]
  refine Q9.loop_true a.length (by omega) (fun again => by rw [if_neg (by simp)]) fun i hi again ha => ?_
  rw [if_pos (by simp; omega), ixL_nat hi, ixL_nat hi, wrap_succ (by omega), if_neg (by simp), ha]
theorem Sl.len {w : World} {v : Value} {l : List V.R10.En} (h : Sl w v l) : ∃ ao cap, v = .slice ao l.length cap := by
  rcases h with ⟨rfl, rfl⟩ | ⟨b, off, cap, rfl, _⟩
  · exact ⟨none, 0, rfl⟩
  · exact ⟨_, cap, rfl⟩
theorem wpList_appendE {w : World} {ops : Array Oper} {rest : List Oper} {o : Oper} {a : Act} {Q : Exit → Act → World → Prop} (hgd : o.guard = none) (s x : Operand)
    (ho : o.op = .call { callee := .builtin .append, args := #[s, x], argTypes := #[22, 22] }) (base : Nat) (v : Value) (n : Nat) (xs : List Value) (l : List V.R10.En) (vl : Value) (hs : a.eval s = v) (hown : w.ownsRow base 34 5 v n xs)
    (hx : a.eval x = vl) (hsl : Sl w vl l) (hn : n ≤ 2000) (hl : l.length ≤ 1000) (hbase : base ≤ w.heap.size)
    (h : ∀ v' w', w'.ownsRow base 34 5 v' (n + l.length) (xs ++ l.flatMap cellsE) → w.grownBy w' v.ownBlock → wpList Tryz.prog ops Q rest (a.put o.dst v') w') : wpList Tryz.prog ops Q (o :: rest) a w := by
  obtain ⟨i0, hi, hz0, hz1, hz2⟩ := info_parts info34
  rcases hsl with ⟨rfl, rfl⟩ | ⟨b, off, cap, rfl, hc, hR⟩
  · refine wpList_append_own_none hgd s x 22 ho base 34 i0 5 Tryz.underlying22 hi v n xs hs hown hx (h v w (by simpa using hown) ⟨rfl, rfl, rfl, Nat.le_refl _, fun _ _ _ => rfl⟩)
  · exact wpList_append_own w hgd s x 22 ho base 34 i0 _ 5 56 Tryz.underlying22 hi hz0 hz1 hz2 rfl (by decide) v n xs hs hown ⟨b, off, none⟩ l.length cap (l.flatMap cellsE) hx (cellsE_len l) (fun j u hu => by rw [addr_off]; exact rows_cells hR j u hu) (oneCells l) (by unfold maxLen; omega) (by omega) hbase fun v' w' h1 h2 _ => h v' w' h1 h2
theorem agree_tot {a b : List V.R10.En} (ha : Mid a) (hb : Mid b) (q : List UInt8) : ∃ g, recon_Agree (a, (b, q)) = some g := by
  obtain ⟨ra, h1⟩ := ha.ends
  obtain ⟨rb, h2⟩ := hb.ends
  unfold recon_Agree
  dsimp only
  rw [h1, Option.bind_some]
  cases ra with
  | false => exact ⟨_, rfl⟩
  | true =>
    rw [if_neg (by simp), h2, Option.bind_some]
    cases rb with
    | false => exact ⟨_, rfl⟩
    | true =>
      rw [if_neg (by simp)]
      rcases find_cases (ha.right h1) q with ⟨_, f1⟩ | ⟨k, hk, _, _, f1⟩
      · rcases find_cases (hb.right h2) q with ⟨_, f2⟩ | ⟨k2, hk2, _, _, f2⟩ <;> rw [f1, f2] <;> exact ⟨_, rfl⟩
      · rcases find_cases (hb.right h2) q with ⟨_, f2⟩ | ⟨k2, hk2, _, _, f2⟩
        · rw [f1, f2, Option.bind_some, Option.bind_some, if_neg (by simp), if_pos (by decide)]
          exact ⟨_, rfl⟩
        · rw [f1, f2, Option.bind_some, Option.bind_some, if_neg (by simp), if_neg (by simp), ixL_nat hk, ixL_nat hk2]
          exact ⟨_, rfl⟩
theorem merge_lens {a b : List V.R10.En} (ha : Mid a) (hb : Mid b) {y : List V.R10.En × (List (List UInt8) × Int)} (hy : recon_Merge (a, b) = some y) : y.1.length ≤ 128 ∧ y.2.1.length ≤ 128 := by
  rcases merge_all ha hb with ⟨_, h⟩ | ⟨_, _, hm, h⟩ | ⟨h1, h2, hm, h⟩
  · rw [h] at hy; cases hy; exact ⟨by simp, by simp⟩
  · rw [h] at hy; cases hy; exact ⟨by simp, by simp⟩
  · rw [h] at hy; cases hy; exact ⟨mrg_len a b ha hb, cnf_len a b ha hb⟩
set_option maxHeartbeats 4000000 in
theorem merges_calls {w : World} {va vb : Value} {a b : List V.R10.En} {p : List UInt8} (sa : Sl w va a) (sb : Sl w vb b) : Calls Tryz.prog 3 #[va, vb, .string ⟨⟨p⟩⟩] w fun e w' => e = .returned (.bool true) ∧ Below w.heap.size w w' := by
  obtain ⟨oa, ca, eva⟩ := Sl.len sa
  obtain ⟨ob, cb, evb⟩ := Sl.len sb
  subst eva
  subst evb
  have m1 : True := trivial
  by_cases hdone : (decide (a.length ≤ 60) && a.all Q9.okEn) = true ∧ (decide (b.length ≤ 60) && b.all Q9.okEn) = true ∧ p.length ≤ 100
  · obtain ⟨hfa, hfb, hp⟩ := hdone
    have FA : ∀ wr, Sl wr (.slice oa a.length ca) a → Calls Tryz.prog 12 #[.slice oa a.length ca] wr fun e w' => e = .returned (.bool true) ∧ Below wr.heap.size wr w' := fun wr hs => by have := few_calls hs; rwa [hfa] at this
    have FB : ∀ wr, Sl wr (.slice ob b.length cb) b → Calls Tryz.prog 12 #[.slice ob b.length cb] wr fun e w' => e = .returned (.bool true) ∧ Below wr.heap.size wr w' := fun wr hs => by have := few_calls hs; rwa [hfb] at this
    have ma := (few_small hfa).mid
    have mb := (few_small hfb).mid
    clear hfa hfb
    obtain ⟨y, hy⟩ : ∃ y, recon_Merge (a, b) = some y := by
      rcases merge_all ma mb with ⟨_, h⟩ | ⟨_, _, hm, h⟩ | ⟨h1, h2, hm, h⟩ <;> exact ⟨_, h⟩
    obtain ⟨g, hg⟩ := agree_tot ma mb p
    obtain ⟨ly, lc⟩ := merge_lens ma mb hy
    have hry : ref10_Merge (a, b) = some y := by rw [refmerge_ok ma mb, hy]
    have hrg : ref10_Agree (a, (b, p)) = some g := by rw [refagree_ok ma mb p, hg]
    have hss := refsame_refl y.1 (by omega)
    have hsa := refsame_refl a (by have := ma.n; omega)
    have hrr := Q9.rows_refl y.2.1 (by omega)
    have han := ma.n
    have m2 : True := trivial
    go_enter Tryz.func3, Tryz.ntmps3
    go_wp2_with (first
      | (go_at_call 11; refine (small_calls _).mono ?_; rintro e w0 ⟨rfl, hb0⟩)
      | (go_at_call 12; clear m1; refine (FA _ (sa.below hb0)).mono ?_; rintro e w1 ⟨rfl, hb1⟩)
      | (go_at_call 12; refine (FB _ (sb.below (below_trans hb0 hb1))).mono ?_; rintro e w2 ⟨rfl, hb2⟩)
      | (at_builtin; refine wpList_appendE (w := ?ww) (l := a) ?g1 (.tmp 36) (.tmp 37) ?g4 w2.heap.size (.slice (some ⟨w2.heap.size, 0, none⟩) 0 0) 0 [] (.slice oa a.length ca) ?g7 ?g8 ?g9 ?g10 ?g11 ?g12 ?g13 ?g14))
    case g4 => exact rfl
    case g7 => exact rfl
    case g8 => exact (World.ownsRow_made (base := w2.heap.size) (e := 34) (size := 5) w2 #[] 0 (Nat.le_refl _) (Nat.zero_le _) (by simp))
    case g9 => rfl
    case g10 => exact ((sa.below (below_trans (below_trans hb0 hb1) hb2)).below ((Below.refl _ w2).alloc (Nat.le_refl _) _))
    case g11 => omega
    case g12 => omega
    case g13 => simp
    case g1 => rfl
    case g14 =>
      intro vi w3 hown3 hgr3
      have hb02 := below_trans (below_trans hb0 hb1) hb2
      have hb3 : Below w.heap.size w w3 := by
        refine (hb02.alloc hb02.size _).grown hgr3 (by have := hb02.size; simp; omega) (fun k hk => ?_)
        have h1 : some w2.heap.size = some k := hk
        cases h1
        exact hb02.size
      have hsi : Sl w3 vi a := sl_of_owns (by simpa using hown3)
      clear FA FB hown3 hgr3
      have hb4' : True := trivial
      go_wp2_with (first
        | (go_at_call 13; refine (merge_calls hsi (sb.below hb3) hy).mono ?_; rintro e w4 ⟨vo, vc, rfl, hb4, ho, hc, n1, n2⟩)
        | (go_at_call 14; refine (refmerge_calls (sa.below (below_trans hb3 hb4)) (sb.below (below_trans hb3 hb4)) hry).mono ?_; rintro e w5 ⟨vm, vd, rfl, hb5, hsm, hsd⟩)
        | (go_at_call 15; clear m2; refine (same_calls (sl_of_owns (ho.kept (grown_of hb5) (apart_none _))) hsm hss).mono ?_; rintro e w6 ⟨rfl, hb6⟩)
        | (go_at_call 16; refine (rows_calls ((slS_own hc n2).below (below_trans hb5 hb6)) (hsd.below hb6) hrr).mono ?_; rintro e w7 ⟨rfl, hb7⟩))
      have ho7 := ((ho.kept (grown_of hb5) (apart_none _)).kept (grown_of hb6) (apart_none _)).kept (grown_of hb7) (apart_none _)
      obtain ⟨ao, cv, rfl, hao⟩ := slice_form ho7
      have hb37 : Below w3.heap.size w3 w7 := below_trans (below_trans (below_trans hb4 hb5) hb6) hb7
      clear ho hc hsm hsd
      go_loopw [18] (fun c wr => ∃ (k : Nat) (xs : List Value), k ≤ y.1.length ∧ c = .int .i64 k ∧ wr.ownsRow w3.heap.size 34 5 (.slice ao y.1.length cv) y.1.length xs ∧ Below w3.heap.size w3 wr)
        (fun c _ => y.1.length - (intOf c).toNat)
      case atStart => exact ⟨0, _, Nat.zero_le _, rfl, ho7, hb37⟩
      case round =>
        obtain ⟨k, xs, hk, rfl, hown, hnx⟩ := hrel
        by_cases hlt : k < y.1.length
        · obtain ⟨g', rfl⟩ := hao (by omega)
          have hxl := hown.1
          have hgb : w3.heap.size ≤ g' := (hown.lt g' rfl).1
          have d0 : wr.cell? ⟨g', k * 5, none⟩ = some xs[k * 5] := by
            have h1 := hown.cells (g := g') rfl (k * 5) xs[k * 5] (List.getElem?_eq_getElem (by omega))
            rw [addr_add] at h1
            exact h1
          have z0 : wr.frozen? ⟨g', k * 5, none⟩ = false := hown.frozenAt _
          go_wp2
          exact ⟨⟨k + 1, _, by omega, by go_num, (hown.stored _ _).1, hnx.setCell hgb _⟩, by simp [intOf]; omega⟩
        · have hbw := below_trans hb3 hnx
          go_wp2_with (first
            | (go_at_call 15; refine (same_calls (hsi.below hnx) (sa.below hbw) hsa).mono ?_; rintro e w8 ⟨rfl, hb8⟩)
            | (go_at_call 17; refine (agree_calls (sa.below (below_trans hbw hb8)) (sb.below (below_trans hbw hb8)) hg).mono ?_; rintro e w9 ⟨rfl, hb9⟩)
            | (go_at_call 18; refine (refagree_calls (sa.below (below_trans (below_trans hbw hb8) hb9)) (sb.below (below_trans (below_trans hbw hb8) hb9)) hrg).mono ?_; rintro e w10 ⟨rfl, hb10⟩))
          go_ret
          refine ⟨?_, below_trans (below_trans (below_trans hbw hb8) hb9) hb10⟩
          first | rfl | (cases g <;> rfl)
  · have FA : ∀ wr, Sl wr (.slice oa a.length ca) a → Calls Tryz.prog 12 #[.slice oa a.length ca] wr fun e w' => e = .returned (.bool (decide (a.length ≤ 60) && a.all Q9.okEn)) ∧ Below wr.heap.size wr w' := fun wr hs => few_calls hs
    have FB : ∀ wr, Sl wr (.slice ob b.length cb) b → Calls Tryz.prog 12 #[.slice ob b.length cb] wr fun e w' => e = .returned (.bool (decide (b.length ≤ 60) && b.all Q9.okEn)) ∧ Below wr.heap.size wr w' := fun wr hs => few_calls hs
    generalize (decide (a.length ≤ 60) && a.all Q9.okEn) = fa at FA hdone
    generalize (decide (b.length ≤ 60) && b.all Q9.okEn) = fb at FB hdone
    have hp : fa = true → fb = true → 100 < (p.length : Int) := fun h1 h2 => by
      by_cases h : p.length ≤ 100
      · exact absurd ⟨h1, h2, h⟩ hdone
      · omega
    cases fa with
    | false =>
      cases fb with
      | false =>
        go_enter Tryz.func3, Tryz.ntmps3
        go_wp2_with (first
          | (go_at_call 11; refine (small_calls _).mono ?_; rintro e w0 ⟨rfl, hb0⟩)
          | (go_at_call 12; clear m1; refine (FA _ (sa.below hb0)).mono ?_; rintro e w1 ⟨rfl, hb1⟩)
          | (go_at_call 12; refine (FB _ (sb.below (below_trans hb0 hb1))).mono ?_; rintro e w2 ⟨rfl, hb2⟩))
        go_ret
        exact ⟨rfl, below_trans (below_trans hb0 hb1) hb2⟩
      | true =>
        go_enter Tryz.func3, Tryz.ntmps3
        go_wp2_with (first
          | (go_at_call 11; refine (small_calls _).mono ?_; rintro e w0 ⟨rfl, hb0⟩)
          | (go_at_call 12; clear m1; refine (FA _ (sa.below hb0)).mono ?_; rintro e w1 ⟨rfl, hb1⟩)
          | (go_at_call 12; refine (FB _ (sb.below (below_trans hb0 hb1))).mono ?_; rintro e w2 ⟨rfl, hb2⟩))
        go_ret
        exact ⟨rfl, below_trans (below_trans hb0 hb1) hb2⟩
    | true =>
      cases fb with
      | false =>
        go_enter Tryz.func3, Tryz.ntmps3
        go_wp2_with (first
          | (go_at_call 11; refine (small_calls _).mono ?_; rintro e w0 ⟨rfl, hb0⟩)
          | (go_at_call 12; clear m1; refine (FA _ (sa.below hb0)).mono ?_; rintro e w1 ⟨rfl, hb1⟩)
          | (go_at_call 12; refine (FB _ (sb.below (below_trans hb0 hb1))).mono ?_; rintro e w2 ⟨rfl, hb2⟩))
        go_ret
        exact ⟨rfl, below_trans (below_trans hb0 hb1) hb2⟩
      | true =>
        have hp := hp rfl rfl
        go_enter Tryz.func3, Tryz.ntmps3
        go_wp2_with (first
          | (go_at_call 11; refine (small_calls _).mono ?_; rintro e w0 ⟨rfl, hb0⟩)
          | (go_at_call 12; clear m1; refine (FA _ (sa.below hb0)).mono ?_; rintro e w1 ⟨rfl, hb1⟩)
          | (go_at_call 12; refine (FB _ (sb.below (below_trans hb0 hb1))).mono ?_; rintro e w2 ⟨rfl, hb2⟩))
        go_ret
        exact ⟨rfl, below_trans (below_trans hb0 hb1) hb2⟩
theorem dec_enc (l : List V.R10.En) : decL reE (l.map (encR reE)) = some l := decL_of reE rfl l _ (rows_enc reE rfl l)
end Go.Proofs.W.Q10
