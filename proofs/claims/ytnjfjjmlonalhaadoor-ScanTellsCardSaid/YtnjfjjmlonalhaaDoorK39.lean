/- ScanTells, walked. -/
import Derived.Test.YtnjfjjmlonalhaaDoorK37
import Derived.Test.YtnjfjjmlonalhaaDoorK38
import Derived.Test.YtnjfjjmlonalhaaDoorK33
import Derived.WalkKit
import Derived.KernelRfl
namespace Go.Proofs.V.T9
open Go Go.Proofs Go.RowKit Go.Lib Go.Proofs.V Go.Proofs.V.R9 Go.Proofs.W Go.Proofs.W.C
set_option linter.unusedVariables false
set_option linter.unusedSimpArgs false
set_option maxRecDepth 100000
theorem info37 : (Tryd.prog.info? 37).map (fun i => (i.zero, i.size, i.bytes)) = some (some (.agg #[.string ByteArray.empty, .bool false, .string ByteArray.empty, .int .i64 0, .int .i64 0]), 5, 56) := by kernel_rfl
theorem info_parts {i : Option TypeInfo} {z : Value} {s b : Nat} (h : i.map (fun i => (i.zero, i.size, i.bytes)) = some (some z, s, b)) : ∃ j, i = some j ∧ j.zero = some z ∧ j.size = s ∧ j.bytes = b := by
  cases i with
  | none => cases h
  | some j =>
    simp only [Option.map_some, Option.some.injEq, Prod.mk.injEq] at h
    exact ⟨j, rfl, h.1, h.2.1, h.2.2⟩
theorem wpList_appendT {w : World} {ops : Array Oper} {rest : List Oper} {o : Oper} {a : Act} {Q : Exit → Act → World → Prop} (hgd : o.guard = none) (s x : Operand)
    (ho : o.op = .call { callee := .builtin .append, args := #[s, x], argTypes := #[22, 22] }) (base : Nat) (v : Value) (n : Nat) (xs : List Value) (l : List En) (vl : Value) (hs : a.eval s = v) (hown : w.ownsRow base 37 5 v n xs)
    (hx : a.eval x = vl) (hsl : SlR tE w vl l) (hn : n ≤ 2000) (hl : l.length ≤ 1000) (hbase : base ≤ w.heap.size)
    (h : ∀ v' w', w'.ownsRow base 37 5 v' (n + l.length) (xs ++ l.flatMap cellsE) → w.grownBy w' v.ownBlock → wpList Tryd.prog ops Q rest (a.put o.dst v') w') : wpList Tryd.prog ops Q (o :: rest) a w := by
  obtain ⟨i0, hi, hz0, hz1, hz2⟩ := info_parts info37
  rcases slR_form kE hsl with ⟨rfl, rfl⟩ | ⟨b, off, cap, rfl, hc, hcells⟩
  · refine wpList_append_own_none hgd s x 22 ho base 37 i0 5 Tryd.underlying22 hi v n xs hs hown hx (h v w (by simpa using hown) ⟨rfl, rfl, rfl, Nat.le_refl _, fun _ _ _ => rfl⟩)
  · exact wpList_append_own w hgd s x 22 ho base 37 i0 _ 5 56 Tryd.underlying22 hi hz0 hz1 hz2 rfl (by decide) v n xs hs hown ⟨b, off, none⟩ l.length cap (l.flatMap cellsE) hx (kE.flen l) (fun j u hu => by rw [Addr.add_lit]; exact hcells j u hu) (oneCellsE l) (by unfold maxLen; omega) (by omega) hbase fun v' w' h1 h2 _ => h v' w' h1 h2
theorem refscanM {w w0 : World} {v0 v1 : Value} {l : List En} {t : List Fi} {n : Int} {y : List En × (List (List UInt8) × Int)} (s0 : SlR tE w0 v0 l) (s1 : SlR tF w0 v1 t) (hbw : Below w0.heap.size w0 w) (hr : Q10.ref09_Scan (l, (t, n)) = some y) :
    Calls Tryd.prog 13 #[v0, v1, .int .i64 n] w fun e w' => ∃ u1 u2, e = .returned (.tuple #[u1, u2, .int .i64 y.2.2]) ∧ Below w.heap.size w w' ∧ SlM w0.heap.size w.heap.size w'.heap.size tE w' u1 y.1 ∧ SlR tP w' u2 y.2.1 :=
  (callsN3 (cfg := Q9.cfgS) (n := 13) (vs := [v0, v1, .int .i64 n]) (r := tE) (d2 := .sl tP) (d3 := .int .i64) (F := Q10.ref09_Scan) okS rfl rfl rfl Q9.s_ref09_Scan hr (args3 (c1 := .sl tE) (c2 := .sl tF) (c3 := .int .i64) rfl rfl rfl s0 s1 rfl) hbw (fn := Tryd.f13) Tryd.func13 rfl (by kernel_rfl)).mono fun e w' ⟨u1, u2, u3, h1, h2, h3, h4, h5⟩ => ⟨u1, u2, by rw [h1, int_of h5], h2, h3, h4⟩
set_option maxHeartbeats 4000000 in
theorem tells_calls {w : World} {vl vt : Value} {l : List En} {t : List Fi} {n : Int} {p : List UInt8} (sl : SlR tE w vl l) (st : SlR tF w vt t) :
    Calls Tryd.prog 3 #[vl, vt, .int .i64 n, .string ⟨⟨p⟩⟩] w fun e w' => e = .returned (.bool true) ∧ Below w.heap.size w w' := by
  obtain ⟨ol, cl, rfl⟩ := SlR.len kE sl
  obtain ⟨ot, ct, rfl⟩ := SlR.len kF st
  have F9 := fun (wr : World) (hs : SlR tE wr (.slice ol l.length cl) l) => few9_calls hs (Q9.few9_ok l)
  have F4 := fun (wr : World) (hs : SlR tF wr (.slice ot t.length ct) t) => few4_calls hs (Q9.few4_ok t)
  by_cases hdone : (decide (l.length ≤ 60) && l.all Q9.okEn) = true ∧ (decide (t.length ≤ 40) && t.all Q9.okFi) = true ∧ p.length ≤ 100
  · obtain ⟨hg, hf, hp⟩ := hdone
    have ml := (Q10.few_small hg).mid
    have hbt := Q10.few_treeB hf
    have hll := ml.n
    rw [hf] at F4
    rw [hg] at F9
    obtain ⟨y, hy, hyl, hyc⟩ := Q10.scan_tot n hg hf
    have hyr : Q10.ref09_Scan (l, (t, n)) = some y := by rw [Q10.refscan_ok hbt ml n, hy]
    have hcp : Q9.scan_Copy l = some l := Q10.copy_ok (by omega)
    obtain ⟨br, hbr⟩ := ml.ends
    have hbr' : Q10.ref09_Right l = some br := by rw [Q10.refarch_ok ml.p (by omega), hbr]
    obtain ⟨fr, hfr, hfr'⟩ := Q10.find_ref ml p
    obtain ⟨u, hu, hur, hul⟩ := Q10.tree_ref ml
    obtain ⟨sm, hsm⟩ := Q10.same_tot l y.1 (by omega)
    have hsm' : Q9.scan_Same (l, y.1) = some sm := by rw [Q10.same_ref, hsm]
    have ssy := Q10.refsameR y.1 (by omega)
    have ssl := Q10.refsameR l (by omega)
    have ssu := Q10.refsameT u (by omega)
    have ssp := Q9.rows_refl y.2.1 (by omega)
    have hp' : ¬ (100 : Int) < (p.length : Int) := by omega
    clear hg hf hp ml hbt
    have m1 : True := trivial
    have m2 : True := trivial
    go_enter Tryd.func3, Tryd.ntmps3
    go_wp2_with (first
      | (go_at_call 9; refine (small_calls _).mono ?_; rintro e w0 ⟨rfl, hb0⟩)
      | (go_at_call 10; refine (F9 _ (sl.below hb0)).mono ?_; rintro e w1 ⟨rfl, hb1⟩)
      | (go_at_call 11; refine (F4 _ (st.below (hb0.trans (hb1.mono hb0.size)))).mono ?_; rintro e w2 ⟨rfl, hb2⟩; have hb02 := (hb0.trans (hb1.mono hb0.size)).trans (hb2.mono (hb0.trans (hb1.mono hb0.size)).size))
      | (at_builtin; refine wpList_appendT (w := ?ww) (l := l) ?g1 (.tmp 40) (.tmp 41) ?g4 w2.heap.size (.slice (some ⟨w2.heap.size, 0, none⟩) 0 0) 0 [] (.slice ol l.length cl) ?g7 ?g8 ?g9 ?g10 ?g11 ?g12 ?g13 ?g14))
    case g4 => exact rfl
    case g7 => exact rfl
    case g8 => exact (World.ownsRow_made (base := w2.heap.size) (e := 37) (size := 5) w2 #[] 0 (Nat.le_refl _) (Nat.zero_le _) (by simp))
    case g9 => rfl
    case g10 => exact ((sl.below hb02).below ((Below.refl _ w2).alloc (Nat.le_refl _) _))
    case g11 => omega
    case g12 => omega
    case g13 => simp
    case g1 => rfl
    case g14 =>
      intro vi w3 hown3 hgr3
      have hb3 : Below w.heap.size w w3 := by
        refine (hb02.alloc hb02.size _).grown hgr3 (by have := hb02.size; simp; omega) (fun k hk => ?_)
        have h1 : some w2.heap.size = some k := hk
        cases h1
        exact hb02.size
      have hsi : SlR tE w3 vi l := slR_own kE (by simpa using hown3)
      clear F4 F9 hown3 hgr3 hb0 hb1 hb2 hb02
      go_wp2_with (first
        | (go_at_call 12; refine (scan_calls hsi (st.below hb3) hy).mono ?_; rintro e w4 ⟨va, vc, rfl, hb4, sa4, wa4, sc4⟩; have hb34 := hb3.trans (hb4.mono hb3.size); obtain ⟨oa, ca, rfl⟩ := SlR.len kE sa4)
        | (go_at_call 13; refine (refscanM sl st hb34 hyr).mono ?_; rintro e w5 ⟨vb, vd, rfl, hb5, sb5, sd5⟩; have hb35 := hb34.trans (hb5.mono hb34.size))
        | (go_at_call 14; refine (copy_calls (hsi.below (hb4.trans (hb5.mono hb4.size))) hcp).mono ?_; rintro e w6 ⟨vx, rfl, hb6, sx6, wx6⟩; obtain ⟨ox, cx, rfl⟩ := SlR.len kE sx6; have hb36 := hb35.trans (hb6.mono hb35.size); have sb6 := sb5.below hb6; have sl6 := sl.below hb36; have hcur := Below.refl w6.heap.size w6)
        | (go_at_call 15; clear m1; refine (refsame_calls ((sa4.below hb5).below hb6) sb6.sl ssy).mono ?_; rintro e w7 ⟨rfl, hb7⟩; have hcur := hcur.trans (hb7.mono hcur.size))
        | (go_at_call 16; refine (rows_calls (((sc4.below hb5).below hb6).below hcur) ((sd5.below hb6).below hcur) ssp).mono ?_; rintro e w8 ⟨rfl, hb8⟩; have hcur := hcur.trans (hb8.mono hcur.size))
        | (go_at_call 15; refine (refsame_calls (sx6.below hcur) (sl6.below hcur) ssl).mono ?_; rintro e w9 ⟨rfl, hb9⟩; have hcur := hcur.trans (hb9.mono hcur.size)))
      have wa := (((wa4.below hb5).below hb6).below hcur)
      have wx := wx6.below hcur
      have sb := sb6.below hcur
      have hb45 := hb4.trans (hb5.mono hb4.size)
      have hb46 := hb45.trans (hb6.mono hb45.size)
      have hb3x := hb46.trans (hcur.mono hb46.size)
      have hba : ∀ ba, oa = some ⟨ba, 0, none⟩ → 0 < y.1.length → w3.heap.size ≤ ba ∧ ba < w4.heap.size := by
        intro ba e h0
        rcases wa4 with h | ⟨b, cap, vs, ty, e', hb, hh, _⟩
        · omega
        · subst e
          simp only [Value.slice.injEq, Option.some.injEq, Addr.mk.injEq] at e'
          obtain ⟨⟨rfl, _⟩, _⟩ := e'
          exact ⟨hb, (Array.getElem?_eq_some_iff.1 hh).1⟩
      have hs3 := hb3.size
      have hs5 := hb45.size
      clear wa4 wx6 sb5 sb6 sa4 sc4 sd5 sx6 hb6 hb7 hb8 hb9 hcur sl6 hb34 hb35 hb36 hb4 hb5 hb46
      go_loopw [21] (fun c wr => ∃ k : Nat, k ≤ y.1.length ∧ c = .int .i64 k ∧ Wr wr w3.heap.size y.1.length 5 (.slice oa y.1.length ca) ∧ Wr wr w5.heap.size l.length 5 (.slice ox l.length cx) ∧ SlM w.heap.size w4.heap.size w5.heap.size tE wr vb y.1 ∧ Below w3.heap.size w3 wr)
        (fun c _ => y.1.length - (RowKit.intOf c).toNat)
      case atStart => exact ⟨0, Nat.zero_le _, rfl, wa, wx, sb, hb3x⟩
      case round =>
        obtain ⟨k, hk, rfl, wak, wxk, sbk, hnx⟩ := hrel
        by_cases hlt : k < y.1.length
        · obtain ⟨ba, cap, u0, e, hbb, d0, z0⟩ := wak.at hlt (by decide)
          simp only [Value.slice.injEq] at e
          obtain ⟨rfl, _, rfl⟩ := e
          obtain ⟨q1, q2⟩ := hba ba rfl (by omega)
          go_wp2
          exact ⟨⟨k + 1, by omega, by go_num, wak.set _ _, wxk.set _ _, sbk.set _ _ (.inl ⟨by dsimp only; omega, q2⟩), hnx.setCell hbb _⟩, by simp [RowKit.intOf]; omega⟩
        · clear wak wa wx sb hb3x
          go_wp2
          go_loopw [22] (fun c wr2 => ∃ k : Nat, k ≤ l.length ∧ c = .int .i64 k ∧ Wr wr2 w5.heap.size l.length 5 (.slice ox l.length cx) ∧ SlM w.heap.size w4.heap.size w5.heap.size tE wr2 vb y.1 ∧ Below w3.heap.size w3 wr2)
            (fun c _ => l.length - (RowKit.intOf c).toNat)
          case atStart => exact ⟨0, Nat.zero_le _, rfl, wxk, sbk, hnx⟩
          case round =>
            obtain ⟨k2, hk2, rfl, wx2, sb2, hnx2⟩ := hrel
            by_cases hlt2 : k2 < l.length
            · obtain ⟨bx, cap, u0, e, hbb, d0, z0⟩ := wx2.at hlt2 (by decide)
              simp only [Value.slice.injEq] at e
              obtain ⟨rfl, _, rfl⟩ := e
              have hbx : w3.heap.size ≤ bx := by omega
              go_wp2
              exact ⟨⟨k2 + 1, by omega, by go_num, wx2.set _ _, sb2.set _ _ (.inr hbb), hnx2.setCell hbx _⟩, by simp [RowKit.intOf]; omega⟩
            · have hbw := hb3.trans (hnx2.mono hs3)
              have hw2 := hbw
              go_wp2_with (first
                | (go_at_call 15; clear m2; refine (refsame_calls (hsi.below hnx2) (sl.below hbw) ssl).mono ?_; rintro e w10 ⟨rfl, hb10⟩; have sb3 := sb2.below hb10; have hbw := hbw.trans (hb10.mono hbw.size))
                | (go_at_call 17; refine (right_calls (sl.below hbw) hbr).mono ?_; rintro e w11 ⟨rfl, hb11⟩; have sb3 := sb3.below hb11; have hbw := hbw.trans (hb11.mono hbw.size))
                | (go_at_call 18; refine (refright_calls (sl.below hbw) hbr').mono ?_; rintro e w12 ⟨rfl, hb12⟩; have sb3 := sb3.below hb12; have hbw := hbw.trans (hb12.mono hbw.size))
                | (go_at_call 19; refine (find_calls (sl.below hbw) hfr).mono ?_; rintro e w13 ⟨rfl, hb13⟩; have sb3 := sb3.below hb13; have hbw := hbw.trans (hb13.mono hbw.size))
                | (go_at_call 20; refine (reffind_calls (sl.below hbw) hfr').mono ?_; rintro e w14 ⟨rfl, hb14⟩; have sb3 := sb3.below hb14; have hbw := hbw.trans (hb14.mono hbw.size))
                | (go_at_call 22; refine (tree_calls (sl.below hbw) hu).mono ?_; rintro e w15 ⟨vu, rfl, hb15, su, _⟩; have sb3 := sb3.below hb15; have hbw := hbw.trans (hb15.mono hbw.size))
                | (go_at_call 23; refine (reftree_calls (sl.below hbw) hur).mono ?_; rintro e w16 ⟨vur, rfl, hb16, sur, _⟩; have sb3 := sb3.below hb16; have hbw := hbw.trans (hb16.mono hbw.size))
                | (go_at_call 21; refine (sameT_calls (su.below hb16) sur ssu).mono ?_; rintro e w17 ⟨rfl, hb17⟩; have sb3 := sb3.below hb17; have hbw := hbw.trans (hb17.mono hbw.size))
                | (go_at_call 24; refine (same_calls (sl.below hbw) sb3.sl hsm').mono ?_; rintro e w18 ⟨rfl, hb18⟩; have sb3 := sb3.below hb18; have hbw := hbw.trans (hb18.mono hbw.size))
                | (go_at_call 15; refine (refsame_calls (sl.below hbw) sb3.sl hsm).mono ?_; rintro e w19 ⟨rfl, hb19⟩; have hbw := hbw.trans (hb19.mono hbw.size)))
              go_ret
              refine ⟨?_, hbw⟩
              first | rfl | (cases br <;> cases sm <;> rfl) | (cases br <;> cases sm <;> simp)
  · generalize (decide (l.length ≤ 60) && l.all Q9.okEn) = fa at F9 hdone
    generalize (decide (t.length ≤ 40) && t.all Q9.okFi) = fb at F4 hdone
    have hp : fa = true → fb = true → (100 : Int) < (p.length : Int) := fun h1 h2 => by
      by_cases h : p.length ≤ 100
      · exact absurd ⟨h1, h2, h⟩ hdone
      · omega
    cases fa with
    | false =>
      cases fb with
      | false =>
        go_enter Tryd.func3, Tryd.ntmps3
        go_wp2_with (first
          | (go_at_call 9; refine (small_calls _).mono ?_; rintro e w0 ⟨rfl, hb0⟩)
          | (go_at_call 10; refine (F9 _ (sl.below hb0)).mono ?_; rintro e w1 ⟨rfl, hb1⟩)
          | (go_at_call 11; refine (F4 _ (st.below (hb0.trans (hb1.mono hb0.size)))).mono ?_; rintro e w2 ⟨rfl, hb2⟩; have hb02 := (hb0.trans (hb1.mono hb0.size)).trans (hb2.mono (hb0.trans (hb1.mono hb0.size)).size)))
        go_ret
        exact ⟨rfl, hb02⟩
      | true =>
        go_enter Tryd.func3, Tryd.ntmps3
        go_wp2_with (first
          | (go_at_call 9; refine (small_calls _).mono ?_; rintro e w0 ⟨rfl, hb0⟩)
          | (go_at_call 10; refine (F9 _ (sl.below hb0)).mono ?_; rintro e w1 ⟨rfl, hb1⟩)
          | (go_at_call 11; refine (F4 _ (st.below (hb0.trans (hb1.mono hb0.size)))).mono ?_; rintro e w2 ⟨rfl, hb2⟩; have hb02 := (hb0.trans (hb1.mono hb0.size)).trans (hb2.mono (hb0.trans (hb1.mono hb0.size)).size)))
        go_ret
        exact ⟨rfl, hb02⟩
    | true =>
      cases fb with
      | false =>
        go_enter Tryd.func3, Tryd.ntmps3
        go_wp2_with (first
          | (go_at_call 9; refine (small_calls _).mono ?_; rintro e w0 ⟨rfl, hb0⟩)
          | (go_at_call 10; refine (F9 _ (sl.below hb0)).mono ?_; rintro e w1 ⟨rfl, hb1⟩)
          | (go_at_call 11; refine (F4 _ (st.below (hb0.trans (hb1.mono hb0.size)))).mono ?_; rintro e w2 ⟨rfl, hb2⟩; have hb02 := (hb0.trans (hb1.mono hb0.size)).trans (hb2.mono (hb0.trans (hb1.mono hb0.size)).size)))
        go_ret
        exact ⟨rfl, hb02⟩
      | true =>
        have hp := hp rfl rfl
        go_enter Tryd.func3, Tryd.ntmps3
        go_wp2_with (first
          | (go_at_call 9; refine (small_calls _).mono ?_; rintro e w0 ⟨rfl, hb0⟩)
          | (go_at_call 10; refine (F9 _ (sl.below hb0)).mono ?_; rintro e w1 ⟨rfl, hb1⟩)
          | (go_at_call 11; refine (F4 _ (st.below (hb0.trans (hb1.mono hb0.size)))).mono ?_; rintro e w2 ⟨rfl, hb2⟩; have hb02 := (hb0.trans (hb1.mono hb0.size)).trans (hb2.mono (hb0.trans (hb1.mono hb0.size)).size)))
        go_ret
        exact ⟨rfl, hb02⟩
end Go.Proofs.V.T9
