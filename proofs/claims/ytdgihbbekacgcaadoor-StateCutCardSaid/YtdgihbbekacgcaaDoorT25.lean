/- A reader of bytes: cursors, and rows. -/
import Derived.Test.YtdgihbbekacgcaaDoorT23
namespace Go.Proofs.V
open Go Go.Proofs Go.Proofs.V.Wire
set_option linter.unusedVariables false
set_option linter.unusedSimpArgs false
set_option maxRecDepth 100000
set_option maxHeartbeats 1000000
theorem fresh_mark {al : Nat → Bool} {o : Own} (h : Fresh al o) (lab : Nat) (r : AV) : Fresh (markR lab al r) o := by
  rcases h with rfl | ⟨k, rfl, hk⟩
  · exact .inl rfl
  · exact .inr ⟨k, rfl, by simp [markR, hk]⟩
theorem cursor29 (bs : BS) (a : Nat) (e : Int) (ha : a ≤ bs.length) (hb : bs.length ≤ 1000000000) :
    ∃ (x : Cu) (a' : Nat) (e' : Int), evK cfg17 29 [.hp 0 0] (O bs a e :: []) = some (.agg (cellsCu x), [O bs a' e', cellsCu x, cellsCu x]) ∧ Rds bs cCu.dec x a e a' e' := by
  obtain ⟨v0, a0, e0, h0, p0⟩ := number31 bs a e [[I64 0, I64 0, I64 0, I64 0], [I64 0, I64 0, I64 0, I64 0]] ha hb
  obtain ⟨v1, a1, e1, h1, p1⟩ := number31 bs a0 e0 [[I64 0, I64 0, I64 0, I64 0], [I64 v0, I64 0, I64 0, I64 0]] p0.1 hb
  obtain ⟨v2, a2, e2, h2, p2⟩ := number31 bs a1 e1 [[I64 0, I64 0, I64 0, I64 0], [I64 v0, I64 v1, I64 0, I64 0]] p1.1 hb
  obtain ⟨v3, a3, e3, h3, p3⟩ := number31 bs a2 e2 [[I64 0, I64 0, I64 0, I64 0], [I64 v0, I64 v1, I64 v2, I64 0]] p2.1 hb
  refine ⟨(v0, v1, v2, v3), a3, e3, ?_, Rds.prod (c := num maxN) p0 (Rds.prod (c := num maxN) p1 (Rds.prod (c := num maxN) (d := num maxN) p2 p3))⟩
  refine evK_of Tryd.func29 rfl (of_decide_eq_true (by kernel_rfl)) (by kernel_rfl) (by kernel_rfl) rfl ?_
  unfold Tryd.f29
  dsimp only
  refine aw_sk 10 (by kernel_rfl) ?_
  refine aw_sk 10 (by kernel_rfl) ?_
  refine aw_assoc (aw_sk 10 (by kernel_rfl) ?_)
  refine aw_seq (aw_block ?_)
  refine aw_abs 22 [O bs a e, [I64 0, I64 0, I64 0, I64 0], [I64 0, I64 0, I64 0, I64 0]] (cfg17.heap 29) [(0, .hp 0 0), (2, .hp 1 0), (3, .hp 2 0), (10, .slice [[.hp 2 0], [.hp 2 1], [.hp 2 2], [.hp 2 3]] false .full), (11, I64 4), (12, I64 0)] (by kernel_rfl) (fun _ _ _ => ?_)
  refine aw_loop1 (aw_sk 10 (by kernel_rfl) ?_)
  refine aw_sc true (by kernel_rfl) (fun _ => ?_) (fun h => by cases h)
  refine aw_sskip (aw_seq (aw_block (aw_sk 10 (by kernel_rfl) ?_)))
  refine aw_region (ow_k 2 10 (by kernel_rfl) ?_)
  refine ow_callE0 (k := 31) (first := []) (captured := []) (xs := [.hp 0 0]) (r := I64 v0) h0 (by kernel_rfl) (by kernel_rfl) (by kernel_rfl) (by kernel_rfl) (by kernel_rfl) (by kernel_rfl) (by kernel_rfl) (by kernel_rfl) ?_
  refine ow_all 10 (by kernel_rfl) ?_
  refine aw_rk 10 (by kernel_rfl) ?_
  refine aw_abs 22 [O bs a0 e0, [I64 0, I64 0, I64 0, I64 0], [I64 v0, I64 0, I64 0, I64 0]] (cfg17.heap 29) [(0, .hp 0 0), (2, .hp 1 0), (3, .hp 2 0), (10, .slice [[.hp 2 0], [.hp 2 1], [.hp 2 2], [.hp 2 3]] false .full), (11, I64 4), (12, I64 1)] (by kernel_rfl) (fun _ _ _ => ?_)
  refine aw_loop1 (aw_sk 10 (by kernel_rfl) ?_)
  refine aw_sc true (by kernel_rfl) (fun _ => ?_) (fun h => by cases h)
  refine aw_sskip (aw_seq (aw_block (aw_sk 10 (by kernel_rfl) ?_)))
  refine aw_region (ow_k 2 10 (by kernel_rfl) ?_)
  refine ow_callE0 (k := 31) (first := []) (captured := []) (xs := [.hp 0 0]) (r := I64 v1) h1 (by kernel_rfl) (by kernel_rfl) (by kernel_rfl) (by kernel_rfl) (by kernel_rfl) (by kernel_rfl) (by kernel_rfl) (by kernel_rfl) ?_
  refine ow_all 10 (by kernel_rfl) ?_
  refine aw_rk 10 (by kernel_rfl) ?_
  refine aw_abs 22 [O bs a1 e1, [I64 0, I64 0, I64 0, I64 0], [I64 v0, I64 v1, I64 0, I64 0]] (cfg17.heap 29) [(0, .hp 0 0), (2, .hp 1 0), (3, .hp 2 0), (10, .slice [[.hp 2 0], [.hp 2 1], [.hp 2 2], [.hp 2 3]] false .full), (11, I64 4), (12, I64 2)] (by kernel_rfl) (fun _ _ _ => ?_)
  refine aw_loop1 (aw_sk 10 (by kernel_rfl) ?_)
  refine aw_sc true (by kernel_rfl) (fun _ => ?_) (fun h => by cases h)
  refine aw_sskip (aw_seq (aw_block (aw_sk 10 (by kernel_rfl) ?_)))
  refine aw_region (ow_k 2 10 (by kernel_rfl) ?_)
  refine ow_callE0 (k := 31) (first := []) (captured := []) (xs := [.hp 0 0]) (r := I64 v2) h2 (by kernel_rfl) (by kernel_rfl) (by kernel_rfl) (by kernel_rfl) (by kernel_rfl) (by kernel_rfl) (by kernel_rfl) (by kernel_rfl) ?_
  refine ow_all 10 (by kernel_rfl) ?_
  refine aw_rk 10 (by kernel_rfl) ?_
  refine aw_abs 22 [O bs a2 e2, [I64 0, I64 0, I64 0, I64 0], [I64 v0, I64 v1, I64 v2, I64 0]] (cfg17.heap 29) [(0, .hp 0 0), (2, .hp 1 0), (3, .hp 2 0), (10, .slice [[.hp 2 0], [.hp 2 1], [.hp 2 2], [.hp 2 3]] false .full), (11, I64 4), (12, I64 3)] (by kernel_rfl) (fun _ _ _ => ?_)
  refine aw_loop1 (aw_sk 10 (by kernel_rfl) ?_)
  refine aw_sc true (by kernel_rfl) (fun _ => ?_) (fun h => by cases h)
  refine aw_sskip (aw_seq (aw_block (aw_sk 10 (by kernel_rfl) ?_)))
  refine aw_region (ow_k 2 10 (by kernel_rfl) ?_)
  refine ow_callE0 (k := 31) (first := []) (captured := []) (xs := [.hp 0 0]) (r := I64 v3) h3 (by kernel_rfl) (by kernel_rfl) (by kernel_rfl) (by kernel_rfl) (by kernel_rfl) (by kernel_rfl) (by kernel_rfl) (by kernel_rfl) ?_
  refine ow_all 10 (by kernel_rfl) ?_
  refine aw_rk 10 (by kernel_rfl) ?_
  refine aw_abs 22 [O bs a3 e3, [I64 0, I64 0, I64 0, I64 0], [I64 v0, I64 v1, I64 v2, I64 v3]] (cfg17.heap 29) [(0, .hp 0 0), (2, .hp 1 0), (3, .hp 2 0), (10, .slice [[.hp 2 0], [.hp 2 1], [.hp 2 2], [.hp 2 3]] false .full), (11, I64 4), (12, I64 4)] (by kernel_rfl) (fun _ _ _ => ?_)
  refine aw_loop1 (aw_sk 10 (by kernel_rfl) ?_)
  refine aw_sc false (by kernel_rfl) (fun h => by cases h) (fun _ => ?_)
  refine aw_sexit ?_
  dsimp only [Then, InBlock, if_true]
  refine aw_sk 10 (by kernel_rfl) ?_
  refine aw_ret ?_
  exact ⟨.inr rfl, [.agg [I64 v0, I64 v1, I64 v2, I64 v3]], by kernel_rfl, by kernel_rfl, by kernel_rfl, by kernel_rfl⟩
theorem cursor29b (bs : BS) (a : Nat) (e : Int) (r1 r2 : List AV) (ha : a ≤ bs.length) (hb : bs.length ≤ 1000000000) :
    ∃ (x : Cu) (a' : Nat) (e' : Int), evK cfg17 29 [.hp 0 0] (O bs a e :: [r1, r2]) = some (.agg (cellsCu x), [O bs a' e', r1, r2, cellsCu x, cellsCu x]) ∧ Rds bs cCu.dec x a e a' e' := by
  obtain ⟨v0, a0, e0, h0, p0⟩ := number31 bs a e [r1, r2, [I64 0, I64 0, I64 0, I64 0], [I64 0, I64 0, I64 0, I64 0]] ha hb
  obtain ⟨v1, a1, e1, h1, p1⟩ := number31 bs a0 e0 [r1, r2, [I64 0, I64 0, I64 0, I64 0], [I64 v0, I64 0, I64 0, I64 0]] p0.1 hb
  obtain ⟨v2, a2, e2, h2, p2⟩ := number31 bs a1 e1 [r1, r2, [I64 0, I64 0, I64 0, I64 0], [I64 v0, I64 v1, I64 0, I64 0]] p1.1 hb
  obtain ⟨v3, a3, e3, h3, p3⟩ := number31 bs a2 e2 [r1, r2, [I64 0, I64 0, I64 0, I64 0], [I64 v0, I64 v1, I64 v2, I64 0]] p2.1 hb
  refine ⟨(v0, v1, v2, v3), a3, e3, ?_, Rds.prod (c := num maxN) p0 (Rds.prod (c := num maxN) p1 (Rds.prod (c := num maxN) (d := num maxN) p2 p3))⟩
  refine evK_of Tryd.func29 rfl (of_decide_eq_true (by kernel_rfl)) (by kernel_rfl) (by kernel_rfl) rfl ?_
  unfold Tryd.f29
  dsimp only
  refine aw_sk 10 (by kernel_rfl) ?_
  refine aw_sk 10 (by kernel_rfl) ?_
  refine aw_assoc (aw_sk 10 (by kernel_rfl) ?_)
  refine aw_seq (aw_block ?_)
  refine aw_abs 22 [O bs a e, r1, r2, [I64 0, I64 0, I64 0, I64 0], [I64 0, I64 0, I64 0, I64 0]] (cfg17.heap 29) [(0, .hp 0 0), (2, .hp 3 0), (3, .hp 4 0), (10, .slice [[.hp 4 0], [.hp 4 1], [.hp 4 2], [.hp 4 3]] false .full), (11, I64 4), (12, I64 0)] (by kernel_rfl) (fun _ _ _ => ?_)
  refine aw_loop1 (aw_sk 10 (by kernel_rfl) ?_)
  refine aw_sc true (by kernel_rfl) (fun _ => ?_) (fun h => by cases h)
  refine aw_sskip (aw_seq (aw_block (aw_sk 10 (by kernel_rfl) ?_)))
  refine aw_region (ow_k 2 10 (by kernel_rfl) ?_)
  refine ow_callE0 (k := 31) (first := []) (captured := []) (xs := [.hp 0 0]) (r := I64 v0) h0 (by kernel_rfl) (by kernel_rfl) (by kernel_rfl) (by kernel_rfl) (by kernel_rfl) (by kernel_rfl) (by kernel_rfl) (by kernel_rfl) ?_
  refine ow_all 10 (by kernel_rfl) ?_
  refine aw_rk 10 (by kernel_rfl) ?_
  refine aw_abs 22 [O bs a0 e0, r1, r2, [I64 0, I64 0, I64 0, I64 0], [I64 v0, I64 0, I64 0, I64 0]] (cfg17.heap 29) [(0, .hp 0 0), (2, .hp 3 0), (3, .hp 4 0), (10, .slice [[.hp 4 0], [.hp 4 1], [.hp 4 2], [.hp 4 3]] false .full), (11, I64 4), (12, I64 1)] (by kernel_rfl) (fun _ _ _ => ?_)
  refine aw_loop1 (aw_sk 10 (by kernel_rfl) ?_)
  refine aw_sc true (by kernel_rfl) (fun _ => ?_) (fun h => by cases h)
  refine aw_sskip (aw_seq (aw_block (aw_sk 10 (by kernel_rfl) ?_)))
  refine aw_region (ow_k 2 10 (by kernel_rfl) ?_)
  refine ow_callE0 (k := 31) (first := []) (captured := []) (xs := [.hp 0 0]) (r := I64 v1) h1 (by kernel_rfl) (by kernel_rfl) (by kernel_rfl) (by kernel_rfl) (by kernel_rfl) (by kernel_rfl) (by kernel_rfl) (by kernel_rfl) ?_
  refine ow_all 10 (by kernel_rfl) ?_
  refine aw_rk 10 (by kernel_rfl) ?_
  refine aw_abs 22 [O bs a1 e1, r1, r2, [I64 0, I64 0, I64 0, I64 0], [I64 v0, I64 v1, I64 0, I64 0]] (cfg17.heap 29) [(0, .hp 0 0), (2, .hp 3 0), (3, .hp 4 0), (10, .slice [[.hp 4 0], [.hp 4 1], [.hp 4 2], [.hp 4 3]] false .full), (11, I64 4), (12, I64 2)] (by kernel_rfl) (fun _ _ _ => ?_)
  refine aw_loop1 (aw_sk 10 (by kernel_rfl) ?_)
  refine aw_sc true (by kernel_rfl) (fun _ => ?_) (fun h => by cases h)
  refine aw_sskip (aw_seq (aw_block (aw_sk 10 (by kernel_rfl) ?_)))
  refine aw_region (ow_k 2 10 (by kernel_rfl) ?_)
  refine ow_callE0 (k := 31) (first := []) (captured := []) (xs := [.hp 0 0]) (r := I64 v2) h2 (by kernel_rfl) (by kernel_rfl) (by kernel_rfl) (by kernel_rfl) (by kernel_rfl) (by kernel_rfl) (by kernel_rfl) (by kernel_rfl) ?_
  refine ow_all 10 (by kernel_rfl) ?_
  refine aw_rk 10 (by kernel_rfl) ?_
  refine aw_abs 22 [O bs a2 e2, r1, r2, [I64 0, I64 0, I64 0, I64 0], [I64 v0, I64 v1, I64 v2, I64 0]] (cfg17.heap 29) [(0, .hp 0 0), (2, .hp 3 0), (3, .hp 4 0), (10, .slice [[.hp 4 0], [.hp 4 1], [.hp 4 2], [.hp 4 3]] false .full), (11, I64 4), (12, I64 3)] (by kernel_rfl) (fun _ _ _ => ?_)
  refine aw_loop1 (aw_sk 10 (by kernel_rfl) ?_)
  refine aw_sc true (by kernel_rfl) (fun _ => ?_) (fun h => by cases h)
  refine aw_sskip (aw_seq (aw_block (aw_sk 10 (by kernel_rfl) ?_)))
  refine aw_region (ow_k 2 10 (by kernel_rfl) ?_)
  refine ow_callE0 (k := 31) (first := []) (captured := []) (xs := [.hp 0 0]) (r := I64 v3) h3 (by kernel_rfl) (by kernel_rfl) (by kernel_rfl) (by kernel_rfl) (by kernel_rfl) (by kernel_rfl) (by kernel_rfl) (by kernel_rfl) ?_
  refine ow_all 10 (by kernel_rfl) ?_
  refine aw_rk 10 (by kernel_rfl) ?_
  refine aw_abs 22 [O bs a3 e3, r1, r2, [I64 0, I64 0, I64 0, I64 0], [I64 v0, I64 v1, I64 v2, I64 v3]] (cfg17.heap 29) [(0, .hp 0 0), (2, .hp 3 0), (3, .hp 4 0), (10, .slice [[.hp 4 0], [.hp 4 1], [.hp 4 2], [.hp 4 3]] false .full), (11, I64 4), (12, I64 4)] (by kernel_rfl) (fun _ _ _ => ?_)
  refine aw_loop1 (aw_sk 10 (by kernel_rfl) ?_)
  refine aw_sc false (by kernel_rfl) (fun h => by cases h) (fun _ => ?_)
  refine aw_sexit ?_
  dsimp only [Then, InBlock, if_true]
  refine aw_sk 10 (by kernel_rfl) ?_
  refine aw_ret ?_
  exact ⟨.inr rfl, [.agg [I64 v0, I64 v1, I64 v2, I64 v3]], by kernel_rfl, by kernel_rfl, by kernel_rfl, by kernel_rfl⟩
theorem decL_step {α : Type} (d : BS → Option (α × BS)) {n i : Nat} (hi : i < n) {l0 l r : BS} {xs : List α} {x : α} (h : decL d n l0 = (decL d (n - i) l).map fun p => (xs ++ p.1, p.2)) (hd : d l = some (x, r)) : decL d n l0 = (decL d (n - (i + 1)) r).map fun p => (xs ++ [x] ++ p.1, p.2) := by
  rw [h, show n - i = (n - (i + 1)) + 1 by omega]
  simp only [decL, hd]
  cases decL d (n - (i + 1)) r with
  | none => rfl
  | some p => simp
theorem decL_fail {α : Type} (d : BS → Option (α × BS)) {n i : Nat} (hi : i < n) {l0 l : BS} {xs : List α} (h : decL d n l0 = (decL d (n - i) l).map fun p => (xs ++ p.1, p.2)) (hd : d l = none) : decL d n l0 = none := by
  rw [h, show n - i = (n - (i + 1)) + 1 by omega]
  simp only [decL, hd]
  rfl
/-- Rows, read: of a number of parts. -/
theorem rds_list {bs : BS} {α : Type} {c : Codec α} {most : Int} {n : Int} {xs : List α} {a a1 a' : Nat} {e e1 e' : Int} (hn : Rds bs (decN most) n a e a1 e1) (ha : a' ≤ bs.length)
    (h0 : e1 ≠ 0 → e' ≠ 0) (h1 : e1 = 0 → match decL c.dec n.toNat (bs.drop a1) with | some (ys, r) => xs = ys ∧ e' = 0 ∧ bs.drop a' = r | none => e' ≠ 0) : Rds bs (Wire.list most c).dec xs a e a' e' := by
  obtain ⟨p1, p2, p3⟩ := hn
  refine ⟨ha, fun h => h0 (p2 h), fun h => ?_⟩
  have p3 := p3 h
  simp only [Wire.list]
  cases hd : decN most (bs.drop a) with
  | none => rw [hd] at p3; exact h0 p3
  | some nr =>
    obtain ⟨m, r⟩ := nr
    rw [hd] at p3
    obtain ⟨rfl, he, hr⟩ := p3
    have := h1 he
    rw [hr] at this
    dsimp only
    cases hq : decL c.dec n.toNat r with
    | none => rw [hq] at this; exact this
    | some p => rw [hq] at this; exact this
theorem rows25 (bs : BS) (most : Int) (hmost : most ≤ 1000) (a : Nat) (e : Int) (R : List (List AV)) (ha : a ≤ bs.length) (hb : bs.length ≤ 1000000000) :
    ∃ (xs : List Fi) (nl : Bool) (o : Own) (a' : Nat) (e' : Int), evK cfg17 25 [.hp 0 0, I64 most, .fn (.func 26) [] []] (O bs a e :: R) = some (.slice (xs.map rowFi) nl o, O bs a' e' :: R) ∧ RO xs nl o ∧ Rds bs (Wire.list most cFi).dec xs a e a' e' := by
  suffices h : ∃ r H', evK cfg17 25 [.hp 0 0, I64 most, .fn (.func 26) [] []] (O bs a e :: R) = some (r, H') ∧ (∃ (xs : List Fi) (nl : Bool) (o : Own) (a' : Nat) (e' : Int), (r = .slice (xs.map rowFi) nl o ∧ H' = O bs a' e' :: R) ∧ RO xs nl o ∧ Rds bs (Wire.list most cFi).dec xs a e a' e') by
    obtain ⟨r, H', h, xs, nl, o, a', e', ⟨rfl, rfl⟩, h1, h2⟩ := h
    exact ⟨xs, nl, o, a', e', h, h1, h2⟩
  obtain ⟨n, a1, e1, hn, pn, hz⟩ := num24 bs most a e R ha hb
  have hn0 : 0 ≤ n ∧ n ≤ 1000 := by
    obtain ⟨q1, q2, q3⟩ := pn
    by_cases h : e1 = 0
    · have he : e = 0 := Classical.byContradiction fun k => q2 k h
      have q3 := q3 he
      cases hd : decN most (bs.drop a) with
      | none => rw [hd] at q3; exact absurd h q3
      | some xr =>
        obtain ⟨x, r⟩ := xr
        rw [hd] at q3
        obtain ⟨rfl, -, -⟩ := q3
        obtain ⟨_, k1, k2, _⟩ := (num most).B _ _ _ hd
        exact ⟨k1, by omega⟩
    · rw [hz h]; exact ⟨by decide, by decide⟩
  obtain ⟨N, rfl⟩ := Int.eq_ofNat_of_zero_le hn0.1
  refine evK_ofE (P := fun r H' => (∃ (xs : List Fi) (nl : Bool) (o : Own) (a' : Nat) (e' : Int), (r = .slice (xs.map rowFi) nl o ∧ H' = O bs a' e' :: R) ∧ RO xs nl o ∧ Rds bs (Wire.list most cFi).dec xs a e a' e')) Tryd.func25 rfl (of_decide_eq_true (by kernel_rfl)) (by kernel_rfl) (by kernel_rfl) rfl ?_
  unfold Tryd.f25
  dsimp only
  refine aw_sk 10 (by kernel_rfl) ?_
  refine aw_sk 10 (by kernel_rfl) ?_
  refine aw_assoc (aw_sr (ow_k 2 10 (by kernel_rfl) ?_))
  refine ow_callE0 (k := 24) (first := []) (captured := []) (xs := [.hp 0 0, I64 most]) (r := I64 (N : Nat)) hn (by kernel_rfl) (by kernel_rfl) (by kernel_rfl) (by kernel_rfl) (by kernel_rfl) (by kernel_rfl) (by kernel_rfl) (by kernel_rfl) ?_
  refine ow_all 10 (by kernel_rfl) ?_
  refine aw_sfor N (fun i F => ∃ (xs : List Fi) (a' : Nat), IsG 26 (O bs a' e1 :: R) (cfg17.heap 25) 7 (xs.map rowFi) [(0, .hp 0 0), (2, .fn (.func 26) [] []), (11, I64 (N : Nat)), (12, I64 (i : Nat))] F ∧ a' ≤ bs.length ∧ xs.length = i ∧ decL cFi.dec N (bs.drop a1) = (decL cFi.dec (N - i) (bs.drop a')).map fun p => (xs ++ p.1, p.2)) ?_ ?_ ?_
  · exact ⟨[], a1, isG_nil (by kernel_rfl) rfl, pn.1, rfl, by simp⟩
  · rintro i F hi ⟨xs, a2, ⟨t, c, al, o3, nl3, rfl, hg⟩, ha2, hxl, hdec⟩
    have hf : Fresh al o3 := freshG hg
    have he1 : e1 = 0 := Classical.byContradiction fun h => by have := hz h; omega
    subst he1
    obtain ⟨x, a3, e3, hx, px⟩ := readFile26 bs a2 0 R ha2 hb
    replace px : Rds bs cFi.dec x a2 0 a3 e3 := px
    refine aw_sk 10 (by kernel_rfl) ?_
    refine aw_sc (decide ((i : Int) < (N : Int))) (by kernel_rfl) (fun _ => ?_) (fun h => absurd (of_decide_eq_false h) (by omega))
    refine aw_sskip (aw_seq (aw_block (aw_sr (ow_k 2 10 (by kernel_rfl) ?_))))
    refine ow_callE0 (k := 26) (first := []) (captured := []) (xs := [.hp 0 0]) (r := .agg (rowFi x)) hx (by kernel_rfl) (by kernel_rfl) (by kernel_rfl) (by kernel_rfl) (by kernel_rfl) (by kernel_rfl) (by kernel_rfl) (by kernel_rfl) ?_
    refine ow_k 1 10 (by kernel_rfl) ?_
    refine ow_st 8 0 [ST [], ST []] (.agg (rowFi x)) (by kernel_rfl) (by kernel_rfl) (by kernel_rfl) (by kernel_rfl) (by kernel_rfl) (by kernel_rfl) (by kernel_rfl) ?_
    refine ow_nil ?_
    refine aw_assoc (aw_sr (ow_k 1 10 (by kernel_rfl) ?_))
    refine ow_callE0 (k := 68) (first := []) (captured := []) (xs := [.hp 0 0]) (r := I64 e3) (err68 bs a3 e3 R) (by kernel_rfl) (by kernel_rfl) (by kernel_rfl) (by kernel_rfl) (by kernel_rfl) (by kernel_rfl) (by kernel_rfl) (by kernel_rfl) ?_
    refine ow_all 10 (by kernel_rfl) ?_
    refine aw_sc (e3 != 0) (by kernel_rfl) (fun h => ?_) (fun h => ?_)
    · have he3 : e3 ≠ 0 := by simpa using h
      refine aw_assoc (aw_sk 10 (by kernel_rfl) ?_)
      refine aw_sret ?_
      refine ⟨.inr rfl, [.slice [] true .full], by kernel_rfl, by kernel_rfl, [], true, .full, a3, e3, ⟨by kernel_rfl, by kernel_rfl⟩, .inl ⟨rfl, rfl, rfl⟩, rds_list pn px.1 (fun _ => he3) (fun _ => ?_)⟩
      have hd : cFi.dec (bs.drop a2) = none := by
        have := px.2.2 rfl
        cases hd : cFi.dec (bs.drop a2) with
        | none => rfl
        | some p => rw [hd] at this; exact absurd this.2.1 he3
      rw [Int.toNat_natCast, decL_fail _ hi hdec hd]
      exact he3
    · have he3 : e3 = 0 := by simpa using h
      subst he3
      obtain ⟨r, hd, hr⟩ : ∃ r, cFi.dec (bs.drop a2) = some (x, r) ∧ bs.drop a3 = r := by
        have := px.2.2 rfl
        cases hd : cFi.dec (bs.drop a2) with
        | none => rw [hd] at this; exact absurd rfl this
        | some p => obtain ⟨y, r⟩ := p; rw [hd] at this; obtain ⟨rfl, _, h3⟩ := this; exact ⟨r, rfl, h3⟩
      refine aw_sskip (aw_region ?_)
      refine ow_k 1 10 (by kernel_rfl) ?_
      refine ow_ld 8 0 (rowFi x) (.agg (rowFi x)) (by kernel_rfl) (by kernel_rfl) (by kernel_rfl) (by kernel_rfl) (by kernel_rfl) (by kernel_rfl) ?_
      refine ow_k 1 10 (by kernel_rfl) ?_
      refine ow_app (rows := xs.map rowFi) (ys := [rowFi x]) (own := o3) (nl := nl3) (X := .slice [rowFi x] false .full) (ty := 22) (e := 57) (sz := 2) (by_ := 32) (z := [ST [], ST []]) (freshE (al' := markR (c + 64 * 1 + 64 * 5 + 64 * 1) (markR (c + 64 * 1 + 64 * 2) al (.agg (rowFi x))) (I64 0)) (by kernel_rfl) (fresh_mark (fresh_mark hf _ _) _ _)) (by simp) (rowFi_all _) (by simp [rowFi]) (by
        simp only [List.length_map, List.length_cons, List.length_nil]
        omega) (by kernel_rfl) (by kernel_rfl) (by kernel_rfl) (by kernel_rfl) (by kernel_rfl) (by kernel_rfl) (by kernel_rfl) (by kernel_rfl) rfl rfl rfl (by kernel_rfl) (by kernel_rfl) (fun al' ha' => ?_)
      refine ow_all 10 (by kernel_rfl) ?_
      refine aw_rk 10 (by kernel_rfl) ?_
      refine ⟨xs ++ [x], a3, isG_id (l' := [(0, .hp 0 0), (2, .fn (.func 26) [] []), (11, I64 (N : Nat)), (12, I64 (IntKind.i64.wrap ((i : Int) + 1)))]) (rows' := xs.map rowFi ++ [rowFi x]) (k := (c + 64 * 1 + 64 * 5 + 64 * 3 + 64 * 3)) (al' := al') (by rw [succ64 (by omega)]) (by kernel_rfl) (by simp) (by kernel_rfl) ha', px.1, by simp [hxl], ?_⟩
      rw [hr]
      exact decL_step _ hi hdec hd
  · rintro F ⟨xs, a2, ⟨t, c, al, o3, nl3, rfl, hg⟩, ha2, hxl, hdec⟩
    refine aw_sk 10 (by kernel_rfl) ?_
    refine aw_sc (decide ((N : Int) < (N : Int))) (by kernel_rfl) (fun h => absurd (of_decide_eq_true h) (by omega)) (fun _ => ?_)
    refine aw_sexit ?_
    dsimp only [Then, InBlock, if_true]
    refine aw_sk 10 (by kernel_rfl) ?_
    refine aw_ret ?_
    have hrd : Rds bs (Wire.list most cFi).dec xs a e a2 e1 := rds_list pn ha2 (fun h => h) (fun he => by
      rw [Int.toNat_natCast, hdec, Nat.sub_self]
      simp [decL, he])
    rcases hg with ⟨hx, rfl, rfl⟩ | ⟨k, rfl, hk, rfl⟩
    · have hx' : xs = [] := List.map_eq_nil_iff.1 hx
      exact ⟨.inr rfl, [.slice (xs.map rowFi) true .full], by kernel_rfl, by kernel_rfl, xs, true, .full, a2, e1, ⟨by kernel_rfl, by kernel_rfl⟩, .inl ⟨hx', rfl, rfl⟩, hrd⟩
    · exact ⟨.inr rfl, [.slice (xs.map rowFi) false (.id k)], by kernel_rfl, by kernel_rfl, xs, false, .fresh, a2, e1, ⟨leave_at (al' := al) (by kernel_rfl) hk, by kernel_rfl⟩, .inr ⟨rfl, rfl⟩, hrd⟩
theorem rowEn_all (l : List En) : ∀ r ∈ l.map rowEn, r.length = 5 := by
  intro r h
  obtain ⟨x, _, rfl⟩ := List.mem_map.1 h
  rfl
theorem rows27 (bs : BS) (most : Int) (hmost : most ≤ 1000) (a : Nat) (e : Int) (R : List (List AV)) (ha : a ≤ bs.length) (hb : bs.length ≤ 1000000000) :
    ∃ (xs : List En) (nl : Bool) (o : Own) (a' : Nat) (e' : Int), evK cfg17 27 [.hp 0 0, I64 most, .fn (.func 28) [] []] (O bs a e :: R) = some (.slice (xs.map rowEn) nl o, O bs a' e' :: R) ∧ RO xs nl o ∧ Rds bs (Wire.list most cEn).dec xs a e a' e' := by
  suffices h : ∃ r H', evK cfg17 27 [.hp 0 0, I64 most, .fn (.func 28) [] []] (O bs a e :: R) = some (r, H') ∧ (∃ (xs : List En) (nl : Bool) (o : Own) (a' : Nat) (e' : Int), (r = .slice (xs.map rowEn) nl o ∧ H' = O bs a' e' :: R) ∧ RO xs nl o ∧ Rds bs (Wire.list most cEn).dec xs a e a' e') by
    obtain ⟨r, H', h, xs, nl, o, a', e', ⟨rfl, rfl⟩, h1, h2⟩ := h
    exact ⟨xs, nl, o, a', e', h, h1, h2⟩
  obtain ⟨n, a1, e1, hn, pn, hz⟩ := num24 bs most a e R ha hb
  have hn0 : 0 ≤ n ∧ n ≤ 1000 := by
    obtain ⟨q1, q2, q3⟩ := pn
    by_cases h : e1 = 0
    · have he : e = 0 := Classical.byContradiction fun k => q2 k h
      have q3 := q3 he
      cases hd : decN most (bs.drop a) with
      | none => rw [hd] at q3; exact absurd h q3
      | some xr =>
        obtain ⟨x, r⟩ := xr
        rw [hd] at q3
        obtain ⟨rfl, -, -⟩ := q3
        obtain ⟨_, k1, k2, _⟩ := (num most).B _ _ _ hd
        exact ⟨k1, by omega⟩
    · rw [hz h]; exact ⟨by decide, by decide⟩
  obtain ⟨N, rfl⟩ := Int.eq_ofNat_of_zero_le hn0.1
  refine evK_ofE (P := fun r H' => (∃ (xs : List En) (nl : Bool) (o : Own) (a' : Nat) (e' : Int), (r = .slice (xs.map rowEn) nl o ∧ H' = O bs a' e' :: R) ∧ RO xs nl o ∧ Rds bs (Wire.list most cEn).dec xs a e a' e')) Tryd.func27 rfl (of_decide_eq_true (by kernel_rfl)) (by kernel_rfl) (by kernel_rfl) rfl ?_
  unfold Tryd.f27
  dsimp only
  refine aw_sk 10 (by kernel_rfl) ?_
  refine aw_sk 10 (by kernel_rfl) ?_
  refine aw_assoc (aw_sr (ow_k 2 10 (by kernel_rfl) ?_))
  refine ow_callE0 (k := 24) (first := []) (captured := []) (xs := [.hp 0 0, I64 most]) (r := I64 (N : Nat)) hn (by kernel_rfl) (by kernel_rfl) (by kernel_rfl) (by kernel_rfl) (by kernel_rfl) (by kernel_rfl) (by kernel_rfl) (by kernel_rfl) ?_
  refine ow_all 10 (by kernel_rfl) ?_
  refine aw_sfor N (fun i F => ∃ (xs : List En) (a' : Nat), IsG 26 (O bs a' e1 :: R) (cfg17.heap 27) 7 (xs.map rowEn) [(0, .hp 0 0), (2, .fn (.func 28) [] []), (11, I64 (N : Nat)), (12, I64 (i : Nat))] F ∧ a' ≤ bs.length ∧ xs.length = i ∧ decL cEn.dec N (bs.drop a1) = (decL cEn.dec (N - i) (bs.drop a')).map fun p => (xs ++ p.1, p.2)) ?_ ?_ ?_
  · exact ⟨[], a1, isG_nil (by kernel_rfl) rfl, pn.1, rfl, by simp⟩
  · rintro i F hi ⟨xs, a2, ⟨t, c, al, o3, nl3, rfl, hg⟩, ha2, hxl, hdec⟩
    have hf : Fresh al o3 := freshG hg
    have he1 : e1 = 0 := Classical.byContradiction fun h => by have := hz h; omega
    subst he1
    obtain ⟨x, a3, e3, hx, px⟩ := readEntry28 bs a2 0 R ha2 hb
    replace px : Rds bs cEn.dec x a2 0 a3 e3 := px
    refine aw_sk 10 (by kernel_rfl) ?_
    refine aw_sc (decide ((i : Int) < (N : Int))) (by kernel_rfl) (fun _ => ?_) (fun h => absurd (of_decide_eq_false h) (by omega))
    refine aw_sskip (aw_seq (aw_block (aw_sr (ow_k 2 10 (by kernel_rfl) ?_))))
    refine ow_callE0 (k := 28) (first := []) (captured := []) (xs := [.hp 0 0]) (r := .agg (rowEn x)) hx (by kernel_rfl) (by kernel_rfl) (by kernel_rfl) (by kernel_rfl) (by kernel_rfl) (by kernel_rfl) (by kernel_rfl) (by kernel_rfl) ?_
    refine ow_k 1 10 (by kernel_rfl) ?_
    refine ow_st 8 0 [ST [], BO false, ST [], I64 0, I64 0] (.agg (rowEn x)) (by kernel_rfl) (by kernel_rfl) (by kernel_rfl) (by kernel_rfl) (by kernel_rfl) (by kernel_rfl) (by kernel_rfl) ?_
    refine ow_nil ?_
    refine aw_assoc (aw_sr (ow_k 1 10 (by kernel_rfl) ?_))
    refine ow_callE0 (k := 68) (first := []) (captured := []) (xs := [.hp 0 0]) (r := I64 e3) (err68 bs a3 e3 R) (by kernel_rfl) (by kernel_rfl) (by kernel_rfl) (by kernel_rfl) (by kernel_rfl) (by kernel_rfl) (by kernel_rfl) (by kernel_rfl) ?_
    refine ow_all 10 (by kernel_rfl) ?_
    refine aw_sc (e3 != 0) (by kernel_rfl) (fun h => ?_) (fun h => ?_)
    · have he3 : e3 ≠ 0 := by simpa using h
      refine aw_assoc (aw_sk 10 (by kernel_rfl) ?_)
      refine aw_sret ?_
      refine ⟨.inr rfl, [.slice [] true .full], by kernel_rfl, by kernel_rfl, [], true, .full, a3, e3, ⟨by kernel_rfl, by kernel_rfl⟩, .inl ⟨rfl, rfl, rfl⟩, rds_list pn px.1 (fun _ => he3) (fun _ => ?_)⟩
      have hd : cEn.dec (bs.drop a2) = none := by
        have := px.2.2 rfl
        cases hd : cEn.dec (bs.drop a2) with
        | none => rfl
        | some p => rw [hd] at this; exact absurd this.2.1 he3
      rw [Int.toNat_natCast, decL_fail _ hi hdec hd]
      exact he3
    · have he3 : e3 = 0 := by simpa using h
      subst he3
      obtain ⟨r, hd, hr⟩ : ∃ r, cEn.dec (bs.drop a2) = some (x, r) ∧ bs.drop a3 = r := by
        have := px.2.2 rfl
        cases hd : cEn.dec (bs.drop a2) with
        | none => rw [hd] at this; exact absurd rfl this
        | some p => obtain ⟨y, r⟩ := p; rw [hd] at this; obtain ⟨rfl, _, h3⟩ := this; exact ⟨r, rfl, h3⟩
      refine aw_sskip (aw_region ?_)
      refine ow_k 1 10 (by kernel_rfl) ?_
      refine ow_ld 8 0 (rowEn x) (.agg (rowEn x)) (by kernel_rfl) (by kernel_rfl) (by kernel_rfl) (by kernel_rfl) (by kernel_rfl) (by kernel_rfl) ?_
      refine ow_k 1 10 (by kernel_rfl) ?_
      refine ow_app (rows := xs.map rowEn) (ys := [rowEn x]) (own := o3) (nl := nl3) (X := .slice [rowEn x] false .full) (ty := 23) (e := 63) (sz := 5) (by_ := 56) (z := [ST [], BO false, ST [], I64 0, I64 0]) (freshE (al' := markR (c + 64 * 1 + 64 * 5 + 64 * 1) (markR (c + 64 * 1 + 64 * 2) al (.agg (rowEn x))) (I64 0)) (by kernel_rfl) (fresh_mark (fresh_mark hf _ _) _ _)) (by simp) (rowEn_all _) (by simp [rowEn]) (by
        simp only [List.length_map, List.length_cons, List.length_nil]
        omega) (by kernel_rfl) (by kernel_rfl) (by kernel_rfl) (by kernel_rfl) (by kernel_rfl) (by kernel_rfl) (by kernel_rfl) (by kernel_rfl) rfl rfl rfl (by kernel_rfl) (by kernel_rfl) (fun al' ha' => ?_)
      refine ow_all 10 (by kernel_rfl) ?_
      refine aw_rk 10 (by kernel_rfl) ?_
      refine ⟨xs ++ [x], a3, isG_id (l' := [(0, .hp 0 0), (2, .fn (.func 28) [] []), (11, I64 (N : Nat)), (12, I64 (IntKind.i64.wrap ((i : Int) + 1)))]) (rows' := xs.map rowEn ++ [rowEn x]) (k := (c + 64 * 1 + 64 * 5 + 64 * 3 + 64 * 3)) (al' := al') (by rw [succ64 (by omega)]) (by kernel_rfl) (by simp) (by kernel_rfl) ha', px.1, by simp [hxl], ?_⟩
      rw [hr]
      exact decL_step _ hi hdec hd
  · rintro F ⟨xs, a2, ⟨t, c, al, o3, nl3, rfl, hg⟩, ha2, hxl, hdec⟩
    refine aw_sk 10 (by kernel_rfl) ?_
    refine aw_sc (decide ((N : Int) < (N : Int))) (by kernel_rfl) (fun h => absurd (of_decide_eq_true h) (by omega)) (fun _ => ?_)
    refine aw_sexit ?_
    dsimp only [Then, InBlock, if_true]
    refine aw_sk 10 (by kernel_rfl) ?_
    refine aw_ret ?_
    have hrd : Rds bs (Wire.list most cEn).dec xs a e a2 e1 := rds_list pn ha2 (fun h => h) (fun he => by
      rw [Int.toNat_natCast, hdec, Nat.sub_self]
      simp [decL, he])
    rcases hg with ⟨hx, rfl, rfl⟩ | ⟨k, rfl, hk, rfl⟩
    · have hx' : xs = [] := List.map_eq_nil_iff.1 hx
      exact ⟨.inr rfl, [.slice (xs.map rowEn) true .full], by kernel_rfl, by kernel_rfl, xs, true, .full, a2, e1, ⟨by kernel_rfl, by kernel_rfl⟩, .inl ⟨hx', rfl, rfl⟩, hrd⟩
    · exact ⟨.inr rfl, [.slice (xs.map rowEn) false (.id k)], by kernel_rfl, by kernel_rfl, xs, false, .fresh, a2, e1, ⟨leave_at (al' := al) (by kernel_rfl) hk, by kernel_rfl⟩, .inr ⟨rfl, rfl⟩, hrd⟩
theorem rowPu_all (l : List Pu) : ∀ r ∈ l.map rowPu, r.length = 2 := by
  intro r h
  obtain ⟨x, _, rfl⟩ := List.mem_map.1 h
  rfl
theorem rows34 (bs : BS) (most : Int) (hmost : most ≤ 1000) (a : Nat) (e : Int) (R : List (List AV)) (ha : a ≤ bs.length) (hb : bs.length ≤ 1000000000) :
    ∃ (xs : List Pu) (nl : Bool) (o : Own) (a' : Nat) (e' : Int), evK cfg17 34 [.hp 0 0, I64 most, .fn (.func 35) [] []] (O bs a e :: R) = some (.slice (xs.map rowPu) nl o, O bs a' e' :: R) ∧ RO xs nl o ∧ Rds bs (Wire.list most cPu).dec xs a e a' e' := by
  suffices h : ∃ r H', evK cfg17 34 [.hp 0 0, I64 most, .fn (.func 35) [] []] (O bs a e :: R) = some (r, H') ∧ (∃ (xs : List Pu) (nl : Bool) (o : Own) (a' : Nat) (e' : Int), (r = .slice (xs.map rowPu) nl o ∧ H' = O bs a' e' :: R) ∧ RO xs nl o ∧ Rds bs (Wire.list most cPu).dec xs a e a' e') by
    obtain ⟨r, H', h, xs, nl, o, a', e', ⟨rfl, rfl⟩, h1, h2⟩ := h
    exact ⟨xs, nl, o, a', e', h, h1, h2⟩
  obtain ⟨n, a1, e1, hn, pn, hz⟩ := num24 bs most a e R ha hb
  have hn0 : 0 ≤ n ∧ n ≤ 1000 := by
    obtain ⟨q1, q2, q3⟩ := pn
    by_cases h : e1 = 0
    · have he : e = 0 := Classical.byContradiction fun k => q2 k h
      have q3 := q3 he
      cases hd : decN most (bs.drop a) with
      | none => rw [hd] at q3; exact absurd h q3
      | some xr =>
        obtain ⟨x, r⟩ := xr
        rw [hd] at q3
        obtain ⟨rfl, -, -⟩ := q3
        obtain ⟨_, k1, k2, _⟩ := (num most).B _ _ _ hd
        exact ⟨k1, by omega⟩
    · rw [hz h]; exact ⟨by decide, by decide⟩
  obtain ⟨N, rfl⟩ := Int.eq_ofNat_of_zero_le hn0.1
  refine evK_ofE (P := fun r H' => (∃ (xs : List Pu) (nl : Bool) (o : Own) (a' : Nat) (e' : Int), (r = .slice (xs.map rowPu) nl o ∧ H' = O bs a' e' :: R) ∧ RO xs nl o ∧ Rds bs (Wire.list most cPu).dec xs a e a' e')) Tryd.func34 rfl (of_decide_eq_true (by kernel_rfl)) (by kernel_rfl) (by kernel_rfl) rfl ?_
  unfold Tryd.f34
  dsimp only
  refine aw_sk 10 (by kernel_rfl) ?_
  refine aw_sk 10 (by kernel_rfl) ?_
  refine aw_assoc (aw_sr (ow_k 2 10 (by kernel_rfl) ?_))
  refine ow_callE0 (k := 24) (first := []) (captured := []) (xs := [.hp 0 0, I64 most]) (r := I64 (N : Nat)) hn (by kernel_rfl) (by kernel_rfl) (by kernel_rfl) (by kernel_rfl) (by kernel_rfl) (by kernel_rfl) (by kernel_rfl) (by kernel_rfl) ?_
  refine ow_all 10 (by kernel_rfl) ?_
  refine aw_sfor N (fun i F => ∃ (xs : List Pu) (a' : Nat), IsG 26 (O bs a' e1 :: R) (cfg17.heap 34) 7 (xs.map rowPu) [(0, .hp 0 0), (2, .fn (.func 35) [] []), (11, I64 (N : Nat)), (12, I64 (i : Nat))] F ∧ a' ≤ bs.length ∧ xs.length = i ∧ decL cPu.dec N (bs.drop a1) = (decL cPu.dec (N - i) (bs.drop a')).map fun p => (xs ++ p.1, p.2)) ?_ ?_ ?_
  · exact ⟨[], a1, isG_nil (by kernel_rfl) rfl, pn.1, rfl, by simp⟩
  · rintro i F hi ⟨xs, a2, ⟨t, c, al, o3, nl3, rfl, hg⟩, ha2, hxl, hdec⟩
    have hf : Fresh al o3 := freshG hg
    have he1 : e1 = 0 := Classical.byContradiction fun h => by have := hz h; omega
    subst he1
    obtain ⟨x, a3, e3, hx, px⟩ := readPut35 bs a2 0 R ha2 hb
    replace px : Rds bs cPu.dec x a2 0 a3 e3 := px
    refine aw_sk 10 (by kernel_rfl) ?_
    refine aw_sc (decide ((i : Int) < (N : Int))) (by kernel_rfl) (fun _ => ?_) (fun h => absurd (of_decide_eq_false h) (by omega))
    refine aw_sskip (aw_seq (aw_block (aw_sr (ow_k 2 10 (by kernel_rfl) ?_))))
    refine ow_callE0 (k := 35) (first := []) (captured := []) (xs := [.hp 0 0]) (r := .agg (rowPu x)) hx (by kernel_rfl) (by kernel_rfl) (by kernel_rfl) (by kernel_rfl) (by kernel_rfl) (by kernel_rfl) (by kernel_rfl) (by kernel_rfl) ?_
    refine ow_k 1 10 (by kernel_rfl) ?_
    refine ow_st 8 0 [I64 0, ST []] (.agg (rowPu x)) (by kernel_rfl) (by kernel_rfl) (by kernel_rfl) (by kernel_rfl) (by kernel_rfl) (by kernel_rfl) (by kernel_rfl) ?_
    refine ow_nil ?_
    refine aw_assoc (aw_sr (ow_k 1 10 (by kernel_rfl) ?_))
    refine ow_callE0 (k := 68) (first := []) (captured := []) (xs := [.hp 0 0]) (r := I64 e3) (err68 bs a3 e3 R) (by kernel_rfl) (by kernel_rfl) (by kernel_rfl) (by kernel_rfl) (by kernel_rfl) (by kernel_rfl) (by kernel_rfl) (by kernel_rfl) ?_
    refine ow_all 10 (by kernel_rfl) ?_
    refine aw_sc (e3 != 0) (by kernel_rfl) (fun h => ?_) (fun h => ?_)
    · have he3 : e3 ≠ 0 := by simpa using h
      refine aw_assoc (aw_sk 10 (by kernel_rfl) ?_)
      refine aw_sret ?_
      refine ⟨.inr rfl, [.slice [] true .full], by kernel_rfl, by kernel_rfl, [], true, .full, a3, e3, ⟨by kernel_rfl, by kernel_rfl⟩, .inl ⟨rfl, rfl, rfl⟩, rds_list pn px.1 (fun _ => he3) (fun _ => ?_)⟩
      have hd : cPu.dec (bs.drop a2) = none := by
        have := px.2.2 rfl
        cases hd : cPu.dec (bs.drop a2) with
        | none => rfl
        | some p => rw [hd] at this; exact absurd this.2.1 he3
      rw [Int.toNat_natCast, decL_fail _ hi hdec hd]
      exact he3
    · have he3 : e3 = 0 := by simpa using h
      subst he3
      obtain ⟨r, hd, hr⟩ : ∃ r, cPu.dec (bs.drop a2) = some (x, r) ∧ bs.drop a3 = r := by
        have := px.2.2 rfl
        cases hd : cPu.dec (bs.drop a2) with
        | none => rw [hd] at this; exact absurd rfl this
        | some p => obtain ⟨y, r⟩ := p; rw [hd] at this; obtain ⟨rfl, _, h3⟩ := this; exact ⟨r, rfl, h3⟩
      refine aw_sskip (aw_region ?_)
      refine ow_k 1 10 (by kernel_rfl) ?_
      refine ow_ld 8 0 (rowPu x) (.agg (rowPu x)) (by kernel_rfl) (by kernel_rfl) (by kernel_rfl) (by kernel_rfl) (by kernel_rfl) (by kernel_rfl) ?_
      refine ow_k 1 10 (by kernel_rfl) ?_
      refine ow_app (rows := xs.map rowPu) (ys := [rowPu x]) (own := o3) (nl := nl3) (X := .slice [rowPu x] false .full) (ty := 28) (e := 48) (sz := 2) (by_ := 24) (z := [I64 0, ST []]) (freshE (al' := markR (c + 64 * 1 + 64 * 5 + 64 * 1) (markR (c + 64 * 1 + 64 * 2) al (.agg (rowPu x))) (I64 0)) (by kernel_rfl) (fresh_mark (fresh_mark hf _ _) _ _)) (by simp) (rowPu_all _) (by simp [rowPu]) (by
        simp only [List.length_map, List.length_cons, List.length_nil]
        omega) (by kernel_rfl) (by kernel_rfl) (by kernel_rfl) (by kernel_rfl) (by kernel_rfl) (by kernel_rfl) (by kernel_rfl) (by kernel_rfl) rfl rfl rfl (by kernel_rfl) (by kernel_rfl) (fun al' ha' => ?_)
      refine ow_all 10 (by kernel_rfl) ?_
      refine aw_rk 10 (by kernel_rfl) ?_
      refine ⟨xs ++ [x], a3, isG_id (l' := [(0, .hp 0 0), (2, .fn (.func 35) [] []), (11, I64 (N : Nat)), (12, I64 (IntKind.i64.wrap ((i : Int) + 1)))]) (rows' := xs.map rowPu ++ [rowPu x]) (k := (c + 64 * 1 + 64 * 5 + 64 * 3 + 64 * 3)) (al' := al') (by rw [succ64 (by omega)]) (by kernel_rfl) (by simp) (by kernel_rfl) ha', px.1, by simp [hxl], ?_⟩
      rw [hr]
      exact decL_step _ hi hdec hd
  · rintro F ⟨xs, a2, ⟨t, c, al, o3, nl3, rfl, hg⟩, ha2, hxl, hdec⟩
    refine aw_sk 10 (by kernel_rfl) ?_
    refine aw_sc (decide ((N : Int) < (N : Int))) (by kernel_rfl) (fun h => absurd (of_decide_eq_true h) (by omega)) (fun _ => ?_)
    refine aw_sexit ?_
    dsimp only [Then, InBlock, if_true]
    refine aw_sk 10 (by kernel_rfl) ?_
    refine aw_ret ?_
    have hrd : Rds bs (Wire.list most cPu).dec xs a e a2 e1 := rds_list pn ha2 (fun h => h) (fun he => by
      rw [Int.toNat_natCast, hdec, Nat.sub_self]
      simp [decL, he])
    rcases hg with ⟨hx, rfl, rfl⟩ | ⟨k, rfl, hk, rfl⟩
    · have hx' : xs = [] := List.map_eq_nil_iff.1 hx
      exact ⟨.inr rfl, [.slice (xs.map rowPu) true .full], by kernel_rfl, by kernel_rfl, xs, true, .full, a2, e1, ⟨by kernel_rfl, by kernel_rfl⟩, .inl ⟨hx', rfl, rfl⟩, hrd⟩
    · exact ⟨.inr rfl, [.slice (xs.map rowPu) false (.id k)], by kernel_rfl, by kernel_rfl, xs, false, .fresh, a2, e1, ⟨leave_at (al' := al) (by kernel_rfl) hk, by kernel_rfl⟩, .inr ⟨rfl, rfl⟩, hrd⟩
theorem rowN_all (l : List Int) : ∀ r ∈ l.map rowN, r.length = 1 := by
  intro r h
  obtain ⟨x, _, rfl⟩ := List.mem_map.1 h
  rfl
theorem rows30 (bs : BS) (most : Int) (hmost : most ≤ 1000) (a : Nat) (e : Int) (R : List (List AV)) (ha : a ≤ bs.length) (hb : bs.length ≤ 1000000000) :
    ∃ (xs : List Int) (nl : Bool) (o : Own) (a' : Nat) (e' : Int), evK cfg17 30 [.hp 0 0, I64 most, .fn (.func 31) [] []] (O bs a e :: R) = some (.slice (xs.map rowN) nl o, O bs a' e' :: R) ∧ RO xs nl o ∧ Rds bs (Wire.list most (num maxN)).dec xs a e a' e' := by
  suffices h : ∃ r H', evK cfg17 30 [.hp 0 0, I64 most, .fn (.func 31) [] []] (O bs a e :: R) = some (r, H') ∧ (∃ (xs : List Int) (nl : Bool) (o : Own) (a' : Nat) (e' : Int), (r = .slice (xs.map rowN) nl o ∧ H' = O bs a' e' :: R) ∧ RO xs nl o ∧ Rds bs (Wire.list most (num maxN)).dec xs a e a' e') by
    obtain ⟨r, H', h, xs, nl, o, a', e', ⟨rfl, rfl⟩, h1, h2⟩ := h
    exact ⟨xs, nl, o, a', e', h, h1, h2⟩
  obtain ⟨n, a1, e1, hn, pn, hz⟩ := num24 bs most a e R ha hb
  have hn0 : 0 ≤ n ∧ n ≤ 1000 := by
    obtain ⟨q1, q2, q3⟩ := pn
    by_cases h : e1 = 0
    · have he : e = 0 := Classical.byContradiction fun k => q2 k h
      have q3 := q3 he
      cases hd : decN most (bs.drop a) with
      | none => rw [hd] at q3; exact absurd h q3
      | some xr =>
        obtain ⟨x, r⟩ := xr
        rw [hd] at q3
        obtain ⟨rfl, -, -⟩ := q3
        obtain ⟨_, k1, k2, _⟩ := (num most).B _ _ _ hd
        exact ⟨k1, by omega⟩
    · rw [hz h]; exact ⟨by decide, by decide⟩
  obtain ⟨N, rfl⟩ := Int.eq_ofNat_of_zero_le hn0.1
  refine evK_ofE (P := fun r H' => (∃ (xs : List Int) (nl : Bool) (o : Own) (a' : Nat) (e' : Int), (r = .slice (xs.map rowN) nl o ∧ H' = O bs a' e' :: R) ∧ RO xs nl o ∧ Rds bs (Wire.list most (num maxN)).dec xs a e a' e')) Tryd.func30 rfl (of_decide_eq_true (by kernel_rfl)) (by kernel_rfl) (by kernel_rfl) rfl ?_
  unfold Tryd.f30
  dsimp only
  refine aw_sk 10 (by kernel_rfl) ?_
  refine aw_sk 10 (by kernel_rfl) ?_
  refine aw_assoc (aw_sr (ow_k 2 10 (by kernel_rfl) ?_))
  refine ow_callE0 (k := 24) (first := []) (captured := []) (xs := [.hp 0 0, I64 most]) (r := I64 (N : Nat)) hn (by kernel_rfl) (by kernel_rfl) (by kernel_rfl) (by kernel_rfl) (by kernel_rfl) (by kernel_rfl) (by kernel_rfl) (by kernel_rfl) ?_
  refine ow_all 10 (by kernel_rfl) ?_
  refine aw_sfor N (fun i F => ∃ (xs : List Int) (a' : Nat), IsG 26 (O bs a' e1 :: R) (cfg17.heap 30) 7 (xs.map rowN) [(0, .hp 0 0), (2, .fn (.func 31) [] []), (11, I64 (N : Nat)), (12, I64 (i : Nat))] F ∧ a' ≤ bs.length ∧ xs.length = i ∧ decL (num maxN).dec N (bs.drop a1) = (decL (num maxN).dec (N - i) (bs.drop a')).map fun p => (xs ++ p.1, p.2)) ?_ ?_ ?_
  · exact ⟨[], a1, isG_nil (by kernel_rfl) rfl, pn.1, rfl, by simp⟩
  · rintro i F hi ⟨xs, a2, ⟨t, c, al, o3, nl3, rfl, hg⟩, ha2, hxl, hdec⟩
    have hf : Fresh al o3 := freshG hg
    have he1 : e1 = 0 := Classical.byContradiction fun h => by have := hz h; omega
    subst he1
    obtain ⟨x, a3, e3, hx, px⟩ := number31 bs a2 0 R ha2 hb
    replace px : Rds bs (num maxN).dec x a2 0 a3 e3 := px
    refine aw_sk 10 (by kernel_rfl) ?_
    refine aw_sc (decide ((i : Int) < (N : Int))) (by kernel_rfl) (fun _ => ?_) (fun h => absurd (of_decide_eq_false h) (by omega))
    refine aw_sskip (aw_seq (aw_block (aw_sr (ow_k 2 10 (by kernel_rfl) ?_))))
    refine ow_callE0 (k := 31) (first := []) (captured := []) (xs := [.hp 0 0]) (r := I64 x) hx (by kernel_rfl) (by kernel_rfl) (by kernel_rfl) (by kernel_rfl) (by kernel_rfl) (by kernel_rfl) (by kernel_rfl) (by kernel_rfl) ?_
    refine ow_all 10 (by kernel_rfl) ?_
    refine aw_assoc (aw_sr (ow_k 1 10 (by kernel_rfl) ?_))
    refine ow_callE0 (k := 68) (first := []) (captured := []) (xs := [.hp 0 0]) (r := I64 e3) (err68 bs a3 e3 R) (by kernel_rfl) (by kernel_rfl) (by kernel_rfl) (by kernel_rfl) (by kernel_rfl) (by kernel_rfl) (by kernel_rfl) (by kernel_rfl) ?_
    refine ow_all 10 (by kernel_rfl) ?_
    refine aw_sc (e3 != 0) (by kernel_rfl) (fun h => ?_) (fun h => ?_)
    · have he3 : e3 ≠ 0 := by simpa using h
      refine aw_assoc (aw_sk 10 (by kernel_rfl) ?_)
      refine aw_sret ?_
      refine ⟨.inr rfl, [.slice [] true .full], by kernel_rfl, by kernel_rfl, [], true, .full, a3, e3, ⟨by kernel_rfl, by kernel_rfl⟩, .inl ⟨rfl, rfl, rfl⟩, rds_list pn px.1 (fun _ => he3) (fun _ => ?_)⟩
      have hd : (num maxN).dec (bs.drop a2) = none := by
        have := px.2.2 rfl
        cases hd : (num maxN).dec (bs.drop a2) with
        | none => rfl
        | some p => rw [hd] at this; exact absurd this.2.1 he3
      rw [Int.toNat_natCast, decL_fail _ hi hdec hd]
      exact he3
    · have he3 : e3 = 0 := by simpa using h
      subst he3
      obtain ⟨r, hd, hr⟩ : ∃ r, (num maxN).dec (bs.drop a2) = some (x, r) ∧ bs.drop a3 = r := by
        have := px.2.2 rfl
        cases hd : (num maxN).dec (bs.drop a2) with
        | none => rw [hd] at this; exact absurd rfl this
        | some p => obtain ⟨y, r⟩ := p; rw [hd] at this; obtain ⟨rfl, _, h3⟩ := this; exact ⟨r, rfl, h3⟩
      refine aw_sskip (aw_region ?_)
      refine ow_k 3 10 (by kernel_rfl) ?_
      refine ow_app (rows := xs.map rowN) (ys := [rowN x]) (own := o3) (nl := nl3) (X := .slice [rowN x] false .full) (ty := 26) (e := 3) (sz := 1) (by_ := 8) (z := [I64 0]) (freshE (al' := markR (c + 64 * 1 + 64 * 4 + 64 * 1) (markR (c + 64 * 1 + 64 * 2) al (I64 x)) (I64 0)) (by kernel_rfl) (fresh_mark (fresh_mark hf _ _) _ _)) (by simp) (rowN_all _) (by simp [rowN]) (by
        simp only [List.length_map, List.length_cons, List.length_nil]
        omega) (by kernel_rfl) (by kernel_rfl) (by kernel_rfl) (by kernel_rfl) (by kernel_rfl) (by kernel_rfl) (by kernel_rfl) (by kernel_rfl) rfl rfl rfl (by kernel_rfl) (by kernel_rfl) (fun al' ha' => ?_)
      refine ow_all 10 (by kernel_rfl) ?_
      refine aw_rk 10 (by kernel_rfl) ?_
      refine ⟨xs ++ [x], a3, isG_id (l' := [(0, .hp 0 0), (2, .fn (.func 31) [] []), (11, I64 (N : Nat)), (12, I64 (IntKind.i64.wrap ((i : Int) + 1)))]) (rows' := xs.map rowN ++ [rowN x]) (k := (c + 64 * 1 + 64 * 4 + 64 * 3 + 64 * 3)) (al' := al') (by rw [succ64 (by omega)]) (by kernel_rfl) (by simp) (by kernel_rfl) ha', px.1, by simp [hxl], ?_⟩
      rw [hr]
      exact decL_step _ hi hdec hd
  · rintro F ⟨xs, a2, ⟨t, c, al, o3, nl3, rfl, hg⟩, ha2, hxl, hdec⟩
    refine aw_sk 10 (by kernel_rfl) ?_
    refine aw_sc (decide ((N : Int) < (N : Int))) (by kernel_rfl) (fun h => absurd (of_decide_eq_true h) (by omega)) (fun _ => ?_)
    refine aw_sexit ?_
    dsimp only [Then, InBlock, if_true]
    refine aw_sk 10 (by kernel_rfl) ?_
    refine aw_ret ?_
    have hrd : Rds bs (Wire.list most (num maxN)).dec xs a e a2 e1 := rds_list pn ha2 (fun h => h) (fun he => by
      rw [Int.toNat_natCast, hdec, Nat.sub_self]
      simp [decL, he])
    rcases hg with ⟨hx, rfl, rfl⟩ | ⟨k, rfl, hk, rfl⟩
    · have hx' : xs = [] := List.map_eq_nil_iff.1 hx
      exact ⟨.inr rfl, [.slice (xs.map rowN) true .full], by kernel_rfl, by kernel_rfl, xs, true, .full, a2, e1, ⟨by kernel_rfl, by kernel_rfl⟩, .inl ⟨hx', rfl, rfl⟩, hrd⟩
    · exact ⟨.inr rfl, [.slice (xs.map rowN) false (.id k)], by kernel_rfl, by kernel_rfl, xs, false, .fresh, a2, e1, ⟨leave_at (al' := al) (by kernel_rfl) hk, by kernel_rfl⟩, .inr ⟨rfl, rfl⟩, hrd⟩
end Go.Proofs.V
namespace Go.Proofs.V
open Go Go.Proofs Go.Proofs.V.Wire
set_option linter.unusedVariables false
set_option linter.unusedSimpArgs false
set_option maxRecDepth 100000
set_option maxHeartbeats 1000000
theorem aw_sgoto {cfg : Cfg} {F : St} {Q : X → St → Prop} {c : Code} {l : Nat} (h : Q (.goto l) F) : Aw cfg (.seq (.goto l) c) F Q := aw_seq (aw_goto h)
theorem rowS_all (l : List BS) : ∀ r ∈ l.map rowS, r.length = 1 := by
  intro r h
  obtain ⟨x, _, rfl⟩ := List.mem_map.1 h
  rfl
theorem rds_bad {bs : BS} {α : Type} {c : Codec α} {xs : List α} {a a' : Nat} {e e' : Int} (ha : a' ≤ bs.length) (he : e' ≠ 0) (hf : e = 0 → (Wire.list 32 c).dec (bs.drop a) = none) : Rds bs (Wire.list 32 c).dec xs a e a' e' :=
  ⟨ha, fun _ => he, fun h => by rw [hf h]; exact he⟩
theorem row33 (bs : BS) (a : Nat) (e : Int) (R : List (List AV)) (ha : a ≤ bs.length) (hb : bs.length ≤ 1000000000) :
    ∃ (xs : List BS) (nl : Bool) (o : Own) (a' : Nat) (e' : Int), evK cfg17 33 [.hp 0 0, I64 32, I64 52] (O bs a e :: R) = some (.slice (xs.map rowS) nl o, O bs a' e' :: R) ∧ RO xs nl o ∧ Rds bs (Wire.list 32 (str 52)).dec xs a e a' e' := by
  suffices h : ∃ r H', evK cfg17 33 [.hp 0 0, I64 32, I64 52] (O bs a e :: R) = some (r, H') ∧ (∃ (xs : List BS) (nl : Bool) (o : Own) (a' : Nat) (e' : Int), (r = .slice (xs.map rowS) nl o ∧ H' = O bs a' e' :: R) ∧ RO xs nl o ∧ Rds bs (Wire.list 32 (str 52)).dec xs a e a' e') by
    obtain ⟨r, H', h, xs, nl, o, a', e', ⟨rfl, rfl⟩, h1, h2⟩ := h
    exact ⟨xs, nl, o, a', e', h, h1, h2⟩
  obtain ⟨n, a1, e1, hn, pn, hz⟩ := num24 bs 32 a e R ha hb
  have hdn : e = 0 → e1 ≠ 0 → (Wire.list 32 (str 52)).dec (bs.drop a) = none := by
    intro he h1
    have q3 := pn.2.2 he
    simp only [Wire.list]
    cases hd : decN 32 (bs.drop a) with
    | none => rfl
    | some xr => rw [hd] at q3; exact absurd q3.2.1 h1
  have hn0 : 0 ≤ n ∧ n ≤ 1000 := by
    obtain ⟨q1, q2, q3⟩ := pn
    by_cases h : e1 = 0
    · have he : e = 0 := Classical.byContradiction fun k => q2 k h
      have q3 := q3 he
      cases hd : decN 32 (bs.drop a) with
      | none => rw [hd] at q3; exact absurd h q3
      | some xr =>
        obtain ⟨x, r⟩ := xr
        rw [hd] at q3
        obtain ⟨rfl, -, -⟩ := q3
        obtain ⟨_, k1, k2, _⟩ := (num 32).B _ _ _ hd
        exact ⟨k1, by omega⟩
    · rw [hz h]; exact ⟨by decide, by decide⟩
  obtain ⟨N, rfl⟩ := Int.eq_ofNat_of_zero_le hn0.1
  refine evK_ofE (P := fun r H' => (∃ (xs : List BS) (nl : Bool) (o : Own) (a' : Nat) (e' : Int), (r = .slice (xs.map rowS) nl o ∧ H' = O bs a' e' :: R) ∧ RO xs nl o ∧ Rds bs (Wire.list 32 (str 52)).dec xs a e a' e')) Tryd.func33 rfl (of_decide_eq_true (by kernel_rfl)) (by kernel_rfl) (by kernel_rfl) rfl ?_
  unfold Tryd.f33
  dsimp only
  refine aw_sk 10 (by kernel_rfl) ?_
  refine aw_scope ?_
  refine aw_sk 10 (by kernel_rfl) ?_
  refine aw_sk 10 (by kernel_rfl) ?_
  refine aw_sk 10 (by kernel_rfl) ?_
  refine aw_sr (ow_k 3 10 (by kernel_rfl) ?_)
  refine ow_callE0 (k := 24) (first := []) (captured := []) (xs := [.hp 0 0, I64 32]) (r := I64 (N : Nat)) hn (by kernel_rfl) (by kernel_rfl) (by kernel_rfl) (by kernel_rfl) (by kernel_rfl) (by kernel_rfl) (by kernel_rfl) (by kernel_rfl) ?_
  refine ow_all 10 (by kernel_rfl) ?_
  refine aw_abs 45 (O bs a1 e1 :: R) (cfg17.heap 33) [(0, .hp 0 0), (2, I64 52), (7, .slice [] true .full), (9, I64 (a : Nat)), (10, I64 (N : Nat))] (by kernel_rfl) (fun t0 c0 al0 => ?_)
  refine aw_assoc (aw_sk 10 (by kernel_rfl) ?_)
  refine aw_sc (e1 != 0) (by kernel_rfl) (fun h => ?_) (fun h => ?_)
  · have he1 : e1 ≠ 0 := by simpa using h
    refine aw_sgoto ?_
    refine ⟨_, rfl, aw_sskip ?_⟩
    refine aw_sk 10 (by kernel_rfl) ?_
    refine aw_sk 10 (by kernel_rfl) ?_
    refine aw_ret ?_
    refine ⟨.inr rfl, [.slice [] true .full], by kernel_rfl, by kernel_rfl, [], true, .full, a, e1, ⟨by kernel_rfl, by kernel_rfl⟩, .inl ⟨rfl, rfl, rfl⟩, rds_bad ha he1 (fun he => hdn he he1)⟩
  have he1 : e1 = 0 := by simpa using h
  subst he1
  refine aw_sskip (aw_assoc (aw_sk 10 (by kernel_rfl) ?_))
  refine aw_sfor N (fun i F => ∃ (xs : List BS) (a' : Nat), IsG 45 (O bs a' 0 :: R) (cfg17.heap 33) 7 (xs.map rowS) [(0, .hp 0 0), (2, I64 52), (9, I64 (a : Nat)), (24, I64 (N : Nat)), (25, I64 (i : Nat))] F ∧ a' ≤ bs.length ∧ xs.length = i ∧ decL (str 52).dec N (bs.drop a1) = (decL (str 52).dec (N - i) (bs.drop a')).map fun p => (xs ++ p.1, p.2)) ?_ ?_ ?_
  · exact ⟨[], a1, isG_nil (by kernel_rfl) rfl, pn.1, rfl, by simp⟩
  · rintro i F hi ⟨xs, a2, ⟨t, c, al, o3, nl3, rfl, hg⟩, ha2, hxl, hdec⟩
    have hf : Fresh al o3 := freshG hg
    obtain ⟨x, a3, e3, hx, px⟩ := string69 bs 52 a2 0 R ha2 hb
    replace px : Rds bs (str 52).dec x a2 0 a3 e3 := px
    refine aw_sk 10 (by kernel_rfl) ?_
    refine aw_sc (decide ((i : Int) < (N : Int))) (by kernel_rfl) (fun _ => ?_) (fun h => absurd (of_decide_eq_false h) (by omega))
    refine aw_sskip (aw_seq (aw_block (aw_sr (ow_k 2 10 (by kernel_rfl) ?_))))
    refine ow_callE0 (k := 69) (first := []) (captured := []) (xs := [.hp 0 0, I64 52]) (r := ST x) hx (by kernel_rfl) (by kernel_rfl) (by kernel_rfl) (by kernel_rfl) (by kernel_rfl) (by kernel_rfl) (by kernel_rfl) (by kernel_rfl) ?_
    refine ow_all 10 (by kernel_rfl) ?_
    refine aw_assoc (aw_sk 10 (by kernel_rfl) ?_)
    refine aw_sc (e3 != 0) (by kernel_rfl) (fun h => ?_) (fun h => ?_)
    · have he3 : e3 ≠ 0 := by simpa using h
      have hd : (str 52).dec (bs.drop a2) = none := by
        have := px.2.2 rfl
        cases hd : (str 52).dec (bs.drop a2) with
        | none => rfl
        | some p => rw [hd] at this; exact absurd this.2.1 he3
      have hdl := decL_fail _ hi hdec hd
      have hno : e = 0 → (Wire.list 32 (str 52)).dec (bs.drop a) = none := by
        intro he
        have q3 := pn.2.2 he
        simp only [Wire.list]
        cases hd : decN 32 (bs.drop a) with
        | none => rfl
        | some xr =>
          obtain ⟨y, r⟩ := xr
          rw [hd] at q3
          obtain ⟨rfl, _, hr⟩ := q3
          dsimp only
          rw [Int.toNat_natCast, ← hr]
          exact hdl
      refine aw_sgoto ?_
      refine ⟨_, rfl, aw_sskip ?_⟩
      refine aw_sk 10 (by kernel_rfl) ?_
      refine aw_sk 10 (by kernel_rfl) ?_
      refine aw_ret ?_
      refine ⟨.inr rfl, [.slice [] true .full], by kernel_rfl, by kernel_rfl, [], true, .full, a, e3, ⟨by kernel_rfl, by kernel_rfl⟩, .inl ⟨rfl, rfl, rfl⟩, rds_bad ha he3 hno⟩
    · have he3 : e3 = 0 := by simpa using h
      subst he3
      obtain ⟨r, hd, hr⟩ : ∃ r, (str 52).dec (bs.drop a2) = some (x, r) ∧ bs.drop a3 = r := by
        have := px.2.2 rfl
        cases hd : (str 52).dec (bs.drop a2) with
        | none => rw [hd] at this; exact absurd rfl this
        | some p => obtain ⟨y, r⟩ := p; rw [hd] at this; obtain ⟨rfl, _, h3⟩ := this; exact ⟨r, rfl, h3⟩
      refine aw_sskip (aw_region (ow_k 3 10 (by kernel_rfl) ?_))
      refine ow_app (rows := xs.map rowS) (ys := [rowS x]) (own := o3) (nl := nl3) (X := .slice [rowS x] false .full) (ty := 27) (e := 9) (sz := 1) (by_ := 16) (z := [ST []]) (freshE (al' := markR (c + 64 * 1 + 64 * 2) al (ST x)) (by kernel_rfl) (fresh_mark hf _ _)) (by simp) (rowS_all _) (by simp [rowS]) (by
        simp only [List.length_map, List.length_cons, List.length_nil]
        omega) (by kernel_rfl) (by kernel_rfl) (by kernel_rfl) (by kernel_rfl) (by kernel_rfl) (by kernel_rfl) (by kernel_rfl) (by kernel_rfl) rfl rfl rfl (by kernel_rfl) (by kernel_rfl) (fun al' ha' => ?_)
      refine ow_all 10 (by kernel_rfl) ?_
      refine aw_rk 10 (by kernel_rfl) ?_
      refine ⟨xs ++ [x], a3, isG_id (l' := [(0, .hp 0 0), (2, I64 52), (9, I64 (a : Nat)), (24, I64 (N : Nat)), (25, I64 (IntKind.i64.wrap ((i : Int) + 1)))]) (rows' := xs.map rowS ++ [rowS x]) (k := (c + 64 * 1 + 64 * 4 + 64 * 5 + 64 * 3)) (al' := al') (by rw [succ64 (by omega)]) (by kernel_rfl) (by simp) (by kernel_rfl) ha', px.1, by simp [hxl], ?_⟩
      rw [hr]
      exact decL_step _ hi hdec hd
  · rintro F ⟨xs, a2, ⟨t, c, al, o3, nl3, rfl, hg⟩, ha2, hxl, hdec⟩
    refine aw_sk 10 (by kernel_rfl) ?_
    refine aw_sc (decide ((N : Int) < (N : Int))) (by kernel_rfl) (fun h => absurd (of_decide_eq_true h) (by omega)) (fun _ => ?_)
    refine aw_sexit ?_
    dsimp only [Then, InBlock, if_true]
    refine aw_assoc (aw_sk 10 (by kernel_rfl) ?_)
    refine aw_sret ?_
    have hrd : Rds bs (Wire.list 32 (str 52)).dec xs a e a2 0 := rds_list pn ha2 (fun h => h) (fun he => by
      rw [Int.toNat_natCast, hdec, Nat.sub_self]
      simp [decL])
    rcases hg with ⟨hx, rfl, rfl⟩ | ⟨k, rfl, hk, rfl⟩
    · have hx' : xs = [] := List.map_eq_nil_iff.1 hx
      exact ⟨.inr rfl, [.slice (xs.map rowS) true .full], by kernel_rfl, by kernel_rfl, xs, true, .full, a2, 0, ⟨by kernel_rfl, by kernel_rfl⟩, .inl ⟨hx', rfl, rfl⟩, hrd⟩
    · exact ⟨.inr rfl, [.slice (xs.map rowS) false (.id k)], by kernel_rfl, by kernel_rfl, xs, false, .fresh, a2, 0, ⟨leave_at (al' := al) (by kernel_rfl) hk, by kernel_rfl⟩, .inr ⟨rfl, rfl⟩, hrd⟩
end Go.Proofs.V
