/- The document's Settle, walked. -/
import Derived.Test.YtckammfgogiplaaGreatDoorK46
import Derived.Deep.RegionHeld3
import Derived.Deep.DrawnRows
namespace Go.Proofs.W.Q10
open Go Go.Proofs Go.Proofs.V Go.Proofs.V.U10 Go.Proofs.V.R10 Go.Proofs.W Go.RowKit
set_option linter.unusedVariables false
set_option linter.unusedSimpArgs false
set_option maxRecDepth 100000
theorem anyTake {l : List (List UInt8)} {p : List UInt8} {k : Nat} {s : List UInt8} (h : l[k]? = some s) : (l.take (k + 1)).any (· == p) = ((l.take k).any (· == p) || (s == p)) := by
  have hk := (List.getElem?_eq_some_iff.1 h).1
  have e : l[k] = s := (List.getElem?_eq_some_iff.1 h).2
  rw [← List.take_append_getElem hk, List.any_append, e]
  simp
/-- The document's Settle where Merge tells conflicts: as far as the question whether the path is one. -/
theorem refsettle_err {w : World} {v1 v2 : Value} {l1 l2 : List V.R10.En} {p : List UInt8} {take : Bool} {n : Int} {y : List V.R10.En × (List (List UInt8) × Int)} (s1 : Sl w v1 l1) (s2 : Sl w v2 l2) (hy : ref10_Merge (l1, l2) = some y) (hne : y.2.2 ≠ 0) :
    Calls Tryz.prog 23 #[v1, v2, .string ⟨⟨p⟩⟩, .bool take, .int .i64 n] w fun e w' => e = .returned (.tuple #[.slice none 0 0, .int .i64 y.2.2]) ∧ Below w.heap.size w w' := by
  have he' : (y.2.2 != 0) = true := by simpa using hne
  go_enter Tryz.func23, Tryz.ntmps23
  go_wp2_with (first
    | (go_at_call 14; refine (refmerge_calls s1 s2 hy).mono ?_; rintro e w1 ⟨vm, vd, rfl, hb1, _, _⟩))
  all_goals go_ret2
  all_goals exact ⟨rfl, hb1⟩
theorem refsettle_none {w : World} {v1 v2 : Value} {l1 l2 : List V.R10.En} {p : List UInt8} {take : Bool} {n : Int} {y : List V.R10.En × (List (List UInt8) × Int)} (s1 : Sl w v1 l1) (s2 : Sl w v2 l2) (hy : ref10_Merge (l1, l2) = some y) (hne : y.2.2 = 0) (hno : y.2.1.any (· == p) = false) (hcl : y.2.1.length ≤ 128) :
    Calls Tryz.prog 23 #[v1, v2, .string ⟨⟨p⟩⟩, .bool take, .int .i64 n] w fun e w' => e = .returned (.tuple #[.slice none 0 0, .int .i64 3]) ∧ Below w.heap.size w w' := by
  obtain ⟨y1, cs, err⟩ := y
  dsimp only at hne hno hcl
  subst hne
  go_enter Tryz.func23, Tryz.ntmps23
  go_wp2_with (first
    | (go_at_call 14; refine (refmerge_calls s1 s2 hy).mono ?_; rintro e w1 ⟨vm, vd, rfl, hb1, hsm, hsd⟩))
  have hsd : SlS w1 vd cs := hsd
  rcases slS_form hsd with ⟨rfl, rfl⟩ | ⟨b, off, cap, rfl, hcell⟩
  · refine wp_loop_rounds 1 ?_
    rw [rounds_succ]
    go_wp2
    go_ret2
    exact ⟨rfl, hb1⟩
  · go_loopw [15, 16] (fun r c wr => wr = w1 ∧ ∃ k : Nat, k ≤ cs.length ∧ c = .int .i64 k ∧ r = .bool ((cs.take k).any (· == p))) (fun _ c _ => cs.length - (intOf c).toNat)
    case atStart => exact ⟨rfl, 0, Nat.zero_le _, rfl, rfl⟩
    case round =>
      obtain ⟨rfl, k, hk, rfl, rfl⟩ := hrel
      by_cases hlt : k < cs.length
      · have hs := List.getElem?_eq_getElem hlt
        obtain ⟨s, hse⟩ : ∃ s, s = cs[k] := ⟨_, rfl⟩
        rw [← hse] at hs
        have d0 := hcell k s hs
        have ht := anyTake (p := p) hs
        have hf : (cs.take k).any (· == p) = false := by
          cases h : (cs.take k).any (· == p) with
          | false => rfl
          | true =>
            rw [List.any_eq_true] at h
            obtain ⟨x, hx, hxp⟩ := h
            rw [List.any_eq_false] at hno
            exact absurd hxp (hno x (List.mem_of_mem_take hx))
        rw [hf]
        rw [hf] at ht
        clear hf
        go_wp2
        exact ⟨⟨trivial, k + 1, by omega, by go_num, by rw [ht, hse]; simp⟩, by simp [intOf]; omega⟩
      · have hkk : k = cs.length := by omega
        subst hkk
        rw [List.take_length, hno]
        go_wp2
        go_ret2
        exact ⟨rfl, hb1⟩
theorem set_clock (e : V.R10.En) (c : Int × Int) : ∀ (l : List V.R10.En) (k : Nat), l[k]? = some e →
    (((l.flatMap cellsE).set (k * 5 + 3) (.int .i64 c.1)).set (k * 5 + 4) (.int .i64 c.2)) = (l.set k (e.1, (e.2.1, (e.2.2.1, c)))).flatMap cellsE
  | a :: l, 0, h => by simp at h; subst h; simp [cellsE]
  | a :: l, k + 1, h => by
    have ih := set_clock e c l k (by simpa using h)
    have e5 : (cellsE a).length = 5 := rfl
    simp only [List.flatMap_cons, List.set_cons_succ]
    rw [← ih]
    rw [List.set_append_right _ _ (by omega), List.set_append_right _ _ (by omega), e5]
    congr 1
    have h1 : (k + 1) * 5 + 3 - 5 = k * 5 + 3 := by omega
    have h2 : (k + 1) * 5 + 4 - 5 = k * 5 + 4 := by omega
    rw [h1, h2]
  | [], k, h => by simp at h
theorem row_clock {w : World} {base g n cap k : Nat} {l : List V.R10.En} {e : V.R10.En} (c : Int × Int) (h : w.ownsRow base 34 5 (.slice (some ⟨g, 0, none⟩) n cap) n (l.flatMap cellsE)) (hk : l[k]? = some e) :
    ((w.setCell ⟨g, k * 5 + 3, none⟩ (.int .i64 c.1)).setCell ⟨g, k * 5 + 4, none⟩ (.int .i64 c.2)).ownsRow base 34 5 (.slice (some ⟨g, 0, none⟩) n cap) n ((l.set k (e.1, (e.2.1, (e.2.2.1, c)))).flatMap cellsE) := by
  rw [← set_clock e c l k hk]
  exact ((h.stored _ _).1.stored _ _).1
structure RHyp (w : World) (v1 v2 : Value) (l1 l2 : List V.R10.En) (p : List UInt8) (n : Int) (k1 k2 : Nat) (e1 e2 : V.R10.En) (y : List V.R10.En × (List (List UInt8) × Int)) (c c' : Int × Int) (lF : List V.R10.En) (mE : Int) : Prop where
  s1 : Sl w v1 l1
  s2 : Sl w v2 l2
  n1 : l1.length ≤ 64
  n2 : l2.length ≤ 64
  hy : ref10_Merge (l1, l2) = some y
  he : y.2.2 = 0
  hp : y.2.1.any (· == p) = true
  hc : y.2.1.length ≤ 128
  h1 : l1[k1]? = some e1
  h2 : l2[k2]? = some e2
  p1 : e1.1 = p
  f1 : ref10_place (l1, p) = some (k1 : Int)
  f2 : ref10_place (l2, p) = some (k2 : Int)
  j : ref02_Join (e1.2.2.2.1, (e1.2.2.2.2, (e2.2.2.2.1, e2.2.2.2.2))) = some c
  t : ref02_Tick (c.1, (c.2, n)) = some c'
  m : ref10_may lF = some mE
set_option maxHeartbeats 4000000 in
theorem refsettle_walk (w : World) (v1 v2 : Value) (l1 l2 : List V.R10.En) (p : List UInt8) (take : Bool) (n : Int) (k1 k2 : Nat) (e1 e2 : V.R10.En) (y : List V.R10.En × (List (List UInt8) × Int)) (c c' : Int × Int) (mE : Int)
    (H : RHyp w v1 v2 l1 l2 p n k1 k2 e1 e2 y c c' (l1.set k1 (p, ((if take then e2.2.1 else e1.2.1), ((if take then e2.2.2.1 else e1.2.2.1), c')))) mE) :
    Calls Tryz.prog 23 #[v1, v2, .string ⟨⟨p⟩⟩, .bool take, .int .i64 n] w fun e w' => Below w.heap.size w w' ∧
      (((c'.1 = c.1 ∧ c'.2 = c.2) ∧ e = .returned (.tuple #[.slice none 0 0, .int .i64 2])) ∨
       (¬ (c'.1 = c.1 ∧ c'.2 = c.2) ∧ mE ≠ 0 ∧ e = .returned (.tuple #[.slice none 0 0, .int .i64 mE])) ∨
       (¬ (c'.1 = c.1 ∧ c'.2 = c.2) ∧ mE = 0 ∧ ∃ v, e = .returned (.tuple #[v, .int .i64 0]) ∧ Sl w' v (l1.set k1 (p, ((if take then e2.2.1 else e1.2.1), ((if take then e2.2.2.1 else e1.2.2.1), c')))))) := by
  have hk1 : k1 < l1.length := (List.getElem?_eq_some_iff.1 H.h1).1
  have hk2 : k2 < l2.length := (List.getElem?_eq_some_iff.1 H.h2).1
  have i1 : (0 : Int) ≤ (k1 : Int) := by omega
  have i2 : (0 : Int) ≤ (k2 : Int) := by omega
  have i3 : (k1 : Int) < (l1.length : Int) := by omega
  have i4 : (k2 : Int) < (l2.length : Int) := by omega
  obtain ⟨b2, f2, cap2, hv2, hcap2, r0, r1, r2, r3, r4⟩ := row_form H.s2 H.h2
  subst hv2
  obtain ⟨oa, ca, hva⟩ := Sl.len H.s1
  subst hva
  obtain ⟨qb, hqb⟩ : ∃ qb : Bool, Hid (qb = decide (c'.1 = c.1 ∧ c'.2 = c.2)) := ⟨_, rfl⟩
  have heq : ∀ w : World, (binOp .eql 32 (.agg #[.int .i64 c'.1, .int .i64 c'.2]) (.agg #[.int .i64 c.1, .int .i64 c.2])).run Tryz.prog w = .ok (.bool qb) w := fun w => by rw [eql_clock, hqb.out]
  have hgu := guard32
  obtain ⟨y1, cs, err⟩ := y
  have he := H.he
  dsimp only at he
  subst he
  have hpy : cs.any (· == p) = true := H.hp
  have hcl : cs.length ≤ 128 := H.hc
  have hln := H.n1
  have MC : ∀ wr, Below w.heap.size w wr → True := fun _ _ => trivial
  go_enter Tryz.func23, Tryz.ntmps23
  go_wp2_with (first
    | (go_at_call 14; refine (refmerge_calls H.s1 H.s2 H.hy).mono ?_; rintro e w1 ⟨vm, vd, rfl, hb1, hsm, hsd⟩))
  have hsd : SlS w1 vd cs := hsd
  rcases slS_form hsd with ⟨rfl, rfl⟩ | ⟨b, off, cap, rfl, hcell⟩
  · cases hpy
  · go_loopw [15, 16] (fun r c wr => wr = w1 ∧ ∃ k : Nat, k ≤ cs.length ∧ c = .int .i64 k ∧ r = .bool ((cs.take k).any (· == p))) (fun _ c _ => cs.length - (intOf c).toNat)
    case atStart => exact ⟨rfl, 0, Nat.zero_le _, rfl, rfl⟩
    case round =>
      obtain ⟨rfl, k, hk, rfl, rfl⟩ := hrel
      by_cases hlt : k < cs.length
      · have hs := List.getElem?_eq_getElem hlt
        obtain ⟨s, hse⟩ : ∃ s, s = cs[k] := ⟨_, rfl⟩
        rw [← hse] at hs
        have d0 := hcell k s hs
        have ht := anyTake (p := p) hs
        cases hf : (cs.take k).any (· == p) with
        | false =>
          rw [hf] at ht
          clear hf
          go_wp2
          exact ⟨⟨trivial, k + 1, by omega, by go_num, by rw [ht, hse]; simp⟩, by simp [intOf]; omega⟩
        | true =>
          rw [hf] at ht
          clear hf
          go_wp2
          exact ⟨⟨trivial, k + 1, by omega, by go_num, by rw [ht]; simp⟩, by simp [intOf]; omega⟩
      · have hkk : k = cs.length := by omega
        subst hkk
        rw [List.take_length, hpy]
        clear hcell hsm hsd
        go_wp2_with (first
          | (go_at_call_of 43 (Value.slice oa l1.length ca); refine (place_calls (H.s1.below hb1) H.f1).mono ?_; rintro e w2 ⟨rfl, hb2⟩)
          | (go_at_call 43; refine (place_calls (H.s2.below (below_trans hb1 hb2)) H.f2).mono ?_; rintro e w3 ⟨rfl, hb3⟩; have hb13 := below_trans (below_trans hb1 hb2) hb3; have q0 := keep_cell hb13 r0; have q1 := keep_cell hb13 r1; have q2 := keep_cell hb13 r2; have q3 := keep_cell hb13 r3; have q4 := keep_cell hb13 r4)
          | (at_builtin; refine wpList_appendE (l := l1) ?g1 (.tmp 59) (.tmp 60) ?g4 (w3.heap.size + 1) (.slice (some ⟨w3.heap.size + 1, 0, none⟩) 0 0) 0 [] (.slice oa l1.length ca) ?g7 ?g8 ?g9 ?g10 ?g11 ?g12 ?g13 ?g14))
        case g1 => rfl
        case g4 => exact rfl
        case g7 => exact rfl
        case g8 =>
          have h8 := World.ownsRow_made (base := w3.heap.size + 1) (e := 34) (size := 5) (w3.alloc (.cells #[.string ⟨⟨e2.1⟩⟩, .bool e2.2.1, .string ⟨⟨e2.2.2.1⟩⟩, .int .i64 e2.2.2.2.1, .int .i64 e2.2.2.2.2] 34)) #[] 0 (by simp) (Nat.zero_le _) (by simp)
          simpa using h8
        case g9 => rfl
        case g10 => exact ((H.s1.below hb13).below (((Below.refl _ w3).alloc (Nat.le_refl _) _).alloc (by simp) _))
        case g11 => omega
        case g12 => omega
        case g13 => simp
        case g14 =>
          intro vi w4 hown4 hgr4
          have hgk : ∀ k, Value.ownBlock (.slice (some ⟨w3.heap.size + 1, 0, none⟩) 0 0) = some k → w3.heap.size + 1 ≤ k := fun k hk => by
            have h1 : some (w3.heap.size + 1) = some k := hk
            cases h1
            exact Nat.le_refl _
          have hbA : Below (w3.heap.size + 1) (w3.alloc (.cells #[.string ⟨⟨e2.1⟩⟩, .bool e2.2.1, .string ⟨⟨e2.2.2.1⟩⟩, .int .i64 e2.2.2.2.1, .int .i64 e2.2.2.2.2] 34)) w4 :=
            ((Below.refl _ _).alloc (by simp) _).grown hgr4 (by simp) hgk
          have hb4 : Below w3.heap.size w3 w4 := by
            refine (((Below.refl _ w3).alloc (Nat.le_refl _) _).alloc (by simp) _).grown hgr4 ?_ (fun k hk => Nat.le_trans (Nat.le_succ _) (hgk k hk))
            simp only [World.size_alloc]
            omega
          obtain ⟨t0, t1, t2, t3, t4⟩ : At5 w4 w3.heap.size e2 := by
            have h5 := at5_alloc w3 e2
            exact ⟨(hbA.cell (by simp)).trans h5.1, (hbA.cell (by simp)).trans h5.2.1, (hbA.cell (by simp)).trans h5.2.2.1, (hbA.cell (by simp)).trans h5.2.2.2.1, (hbA.cell (by simp)).trans h5.2.2.2.2⟩
          have hown4 : w4.ownsRow (w3.heap.size + 1) 34 5 vi l1.length (l1.flatMap cellsE) := by simpa using hown4
          have hr4 : w3.heap.size < w4.heap.size := by have h := hbA.size; rw [World.size_alloc] at h; omega
          obtain ⟨ao, cv, rfl, hao⟩ := slice_form hown4
          obtain ⟨g, rfl⟩ := hao (by omega)
          have hg0 := hown4.lt g rfl
          have hbw := below_trans hb13 hb4
          generalize hr : w3.heap.size = r at *
          clear hgr4 hbA hgk q0 q1 q2 q3 q4
          obtain ⟨p0, p1, p2, p3, p4, -⟩ := gfacts hown4 H.h1
          go_wp2
          refine wp_mid (fun r' w' => Below w4.heap.size w4 w' ∧ w4.heap.size ≤ r' ∧ r' < w'.heap.size ∧ At2 w' r' c) ?F2 ?h21 ?h22
          case h21 =>
            intro Q' hQ'
            go_region_held3 (fun w' => Below w4.heap.size w4 w' ∧ w'.cell? ⟨g, k1 * 5, none⟩ = some (.string ⟨⟨e1.1⟩⟩) ∧ w'.cell? ⟨g, k1 * 5 + 1, none⟩ = some (.bool e1.2.1) ∧ w'.cell? ⟨g, k1 * 5 + 2, none⟩ = some (.string ⟨⟨e1.2.2.1⟩⟩) ∧ w'.cell? ⟨g, k1 * 5 + 3, none⟩ = some (.int .i64 e1.2.2.2.1) ∧ w'.cell? ⟨g, k1 * 5 + 4, none⟩ = some (.int .i64 e1.2.2.2.2) ∧
                w'.cell? ⟨r, 0, none⟩ = some (.string ⟨⟨e2.1⟩⟩) ∧ w'.cell? ⟨r, 1, none⟩ = some (.bool e2.2.1) ∧ w'.cell? ⟨r, 2, none⟩ = some (.string ⟨⟨e2.2.2.1⟩⟩) ∧ w'.cell? ⟨r, 3, none⟩ = some (.int .i64 e2.2.2.2.1) ∧ w'.cell? ⟨r, 4, none⟩ = some (.int .i64 e2.2.2.2.2))
              (first | (refine mk10 ?_ p0 p1 p2 p3 p4 t0 t1 t2 t3 t4; (try go_split_ands); first
                | with_reducible exact Below.refl _ _
                | with_reducible assumption
                | with_reducible exact (Below.refl _ _).drew
                | with_reducible exact ((Below.refl _ _).alloc (Nat.le_refl _) _).drew
                | with_reducible exact below_trans (by assumption) hb7
                | (with_reducible refine Below.alloc (by assumption) ?_ _; exact Below.size (by assumption))
                | (with_reducible refine swap_alloc (by assumption) ?_; (have s7 := hb7.size); (simp only [World.size_drew, World.size_alloc] at s7); omega)
                | (with_reducible refine store2 (by assumption) ?_; first | exact Nat.le_refl _ | ((have s7 := hb7.size); simp at s7; omega))))
              (first
                | (go_at_call 56; refine (refjoin_calls H.j).mono ?_; rintro e w7 ⟨rfl, hb7⟩
                   (try (first | (have yy := fresh2 hb7; obtain ⟨y0, y1, z0, z1, hy⟩ := yy) | (have yy := fresh2d hb7; obtain ⟨y0, y1, z0, z1, hy⟩ := yy)))))
            · rename_i hHeld
              generalize hr' : w7.heap.size = r'
              have s7 := hb7.size
              simp only [World.size_drew] at s7
              refine hQ'.out r' _ ⟨hHeld.1, by omega, by simp; omega, hr' ▸ at2_alloc _ _⟩
            · rename_i hHeld
              generalize hr' : w4.heap.size = r'
              have s7 := hb7.size
              simp at s7
              refine hQ'.out r' _ ⟨by rw [← hr']; exact hHeld.1, by omega, by simp [World.setCell]; omega, at2_store (hr' ▸ y0) (hr' ▸ y1)⟩
          case h22 =>
            intro r' w8
            rintro ⟨hb8, hr3, hr5, u0, u1⟩
            have hown8 := hown4.kept (grown_of hb8) (apart_none _)
            have hgr : ¬ g = r' := by omega
            have hgr2 : ¬ r' = g := by omega
            have hgr3 : ¬ r = g := by omega
            have hgr4 : ¬ g = r := by omega
            have hbw8 := below_trans hbw hb8
            clear p0 p1 p2 p3 p4
            cases qb with
            | true =>
              have hcc0 : c'.1 = c.1 ∧ c'.2 = c.2 := of_decide_eq_true hqb.out.symm
              have hcc : Hid (c'.1 = c.1 ∧ c'.2 = c.2) := hcc0
              clear hcc0
              go_wp2_with (first
                | (go_at_call 57; refine (reftick_calls H.t).mono ?_; rintro e w9 ⟨rfl, hb9⟩
                   have x3 : (w9.alloc (.cells #[.int .i64 c'.1, .int .i64 c'.2] 32)).cell? ⟨r', 0, none⟩ = some (.int .i64 c.1) := Lib.cell?_alloc_some _ (keep_cell hb9 u0)
                   have x4 : (w9.alloc (.cells #[.int .i64 c'.1, .int .i64 c'.2] 32)).cell? ⟨r', 1, none⟩ = some (.int .i64 c.2) := Lib.cell?_alloc_some _ (keep_cell hb9 u1)))
              all_goals go_ret2
              all_goals exact ⟨(below_trans hbw8 hb9).alloc (below_trans hbw8 hb9).size _, .inl ⟨hcc.out, rfl⟩⟩
            | false =>
              have hcc : Hid (¬ (c'.1 = c.1 ∧ c'.2 = c.2)) := of_decide_eq_false hqb.out.symm
              have hmay := fun v wr hs => refmay_calls (v := v) (w := wr) hs H.m
              have hp1 := H.p1
              have hh1 := H.h1
              cases take with
              | false =>
                simp only [Bool.false_eq_true, if_false] at hmay
                go_wp2_with (first
                  | (go_at_call 57; refine (reftick_calls H.t).mono ?_; rintro e w9 ⟨rfl, hb9⟩
                     have x3 : (w9.alloc (.cells #[.int .i64 c'.1, .int .i64 c'.2] 32)).cell? ⟨r', 0, none⟩ = some (.int .i64 c.1) := Lib.cell?_alloc_some _ (keep_cell hb9 u0)
                     have x4 : (w9.alloc (.cells #[.int .i64 c'.1, .int .i64 c'.2] 32)).cell? ⟨r', 1, none⟩ = some (.int .i64 c.2) := Lib.cell?_alloc_some _ (keep_cell hb9 u1)
                     have hown9 := (hown8.kept (grown_of hb9) (apart_none _)).alloc (.cells #[.int .i64 c'.1, .int .i64 c'.2] 32)
                     obtain ⟨p0, p1, p2, p3, p4, z0, z1, z2, z3, z4⟩ := gfacts hown9 H.h1)
                  | (go_at_call 42; refine (hmay _ _ (sl_of_owns (l := l1.set k1 (p, (e1.2.1, (e1.2.2.1, c')))) (by rw [List.length_set, ← hp1]; exact row_clock c' hown9 hh1))).mono ?_; rintro e wm ⟨rfl, hbm⟩))
                all_goals have hgw : w.heap.size ≤ g := Nat.le_trans hb13.size (by omega)
                all_goals have hfin := ((((below_trans hbw8 hb9).alloc (below_trans hbw8 hb9).size (.cells #[.int .i64 c'.1, .int .i64 c'.2] 32)).setCell (p := ⟨g, k1 * 5 + 3, none⟩) hgw (.int .i64 c'.1)).setCell (p := ⟨g, k1 * 5 + 4, none⟩) hgw (.int .i64 c'.2))
                · go_ret2
                  exact ⟨below_trans hfin hbm, .inr (.inl ⟨fun a b => hcc.out ⟨a, b⟩, by simpa using (by assumption : (mE != 0) = true), rfl⟩)⟩
                · go_ret2
                  exact ⟨below_trans hfin hbm, .inr (.inr ⟨fun a b => hcc.out ⟨a, b⟩, by simpa using (by assumption : (mE != 0) = false), _, rfl, (sl_of_owns (l := l1.set k1 (p, (e1.2.1, (e1.2.2.1, c')))) (by rw [List.length_set, ← hp1]; exact row_clock c' hown9 hh1)).below hbm⟩)⟩
              | true =>
                simp only [if_true] at hmay
                have hset : ∀ (lx : List V.R10.En), lx = (l1.set k1 (e1.1, (e2.2.1, (e2.2.2.1, e1.2.2.2)))) → lx[k1]? = some (e1.1, (e2.2.1, (e2.2.2.1, e1.2.2.2))) := fun lx h => by rw [h, List.getElem?_set_self hk1]
                go_wp2_with (first
                  | (go_at_call 57; refine (reftick_calls H.t).mono ?_; rintro e w9 ⟨rfl, hb9⟩
                     have x3 : (w9.alloc (.cells #[.int .i64 c'.1, .int .i64 c'.2] 32)).cell? ⟨r', 0, none⟩ = some (.int .i64 c.1) := Lib.cell?_alloc_some _ (keep_cell hb9 u0)
                     have x4 : (w9.alloc (.cells #[.int .i64 c'.1, .int .i64 c'.2] 32)).cell? ⟨r', 1, none⟩ = some (.int .i64 c.2) := Lib.cell?_alloc_some _ (keep_cell hb9 u1)
                     have x5 : (w9.alloc (.cells #[.int .i64 c'.1, .int .i64 c'.2] 32)).cell? ⟨r, 1, none⟩ = some (.bool e2.2.1) := Lib.cell?_alloc_some _ (keep_cell hb9 (keep_cell hb8 t1))
                     have x6 : (w9.alloc (.cells #[.int .i64 c'.1, .int .i64 c'.2] 32)).cell? ⟨r, 2, none⟩ = some (.string ⟨⟨e2.2.2.1⟩⟩) := Lib.cell?_alloc_some _ (keep_cell hb9 (keep_cell hb8 t2))
                     have hown9 := (hown8.kept (grown_of hb9) (apart_none _)).alloc (.cells #[.int .i64 c'.1, .int .i64 c'.2] 32)
                     have hgs : ¬ g = w9.heap.size := by have := hb9.size; have := hb8.size; omega
                     have hgs2 : ¬ w9.heap.size = g := fun e => hgs e.symm
                     obtain ⟨p0, p1, p2, p3, p4, z0, z1, z2, z3, z4⟩ := gfacts hown9 H.h1)
                  | (go_at_call 42; refine (hmay _ _ (sl_of_owns (l := l1.set k1 (p, (e2.2.1, (e2.2.2.1, c')))) (by have h9 := row_clock c' (row_two e2.2.1 e2.2.2.1 hown9 hh1) (hset _ rfl); rw [List.set_set] at h9; rw [List.length_set, ← hp1]; exact h9))).mono ?_; rintro e wm ⟨rfl, hbm⟩))
                all_goals have hgw : w.heap.size ≤ g := Nat.le_trans hb13.size (by omega)
                all_goals have hfin := ((((((below_trans hbw8 hb9).alloc (below_trans hbw8 hb9).size (.cells #[.int .i64 c'.1, .int .i64 c'.2] 32)).setCell (p := ⟨g, k1 * 5 + 1, none⟩) hgw (.bool e2.2.1)).setCell (p := ⟨g, k1 * 5 + 2, none⟩) hgw (.string ⟨⟨e2.2.2.1⟩⟩)).setCell (p := ⟨g, k1 * 5 + 3, none⟩) hgw (.int .i64 c'.1)).setCell (p := ⟨g, k1 * 5 + 4, none⟩) hgw (.int .i64 c'.2))
                · go_ret2
                  exact ⟨below_trans hfin hbm, .inr (.inl ⟨fun a b => hcc.out ⟨a, b⟩, by simpa using (by assumption : (mE != 0) = true), rfl⟩)⟩
                · go_ret2
                  exact ⟨below_trans hfin hbm, .inr (.inr ⟨fun a b => hcc.out ⟨a, b⟩, by simpa using (by assumption : (mE != 0) = false), _, rfl, (sl_of_owns (l := l1.set k1 (p, (e2.2.1, (e2.2.2.1, c')))) (by have h9 := row_clock c' (row_two e2.2.1 e2.2.2.1 hown9 hh1) (hset _ rfl); rw [List.set_set] at h9; rw [List.length_set, ← hp1]; exact h9)).below hbm⟩)⟩
end Go.Proofs.W.Q10
