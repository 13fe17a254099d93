/- A reader of bytes: numbers and strings. -/
import Derived.Test.YtdgihbbekacgcaaDoorT21
import Derived.Test.YtdgihbbekacgcaaDoorV26
namespace Go.Proofs.V
open Go Go.Proofs Go.Proofs.V.Wire
set_option linter.unusedVariables false
set_option linter.unusedSimpArgs false
/-- What a reader comes to: v is what is decoded from place a on, where no error was. -/
def Rds (bs : BS) {α : Type} (d : BS → Option (α × BS)) (v : α) (a : Nat) (e : Int) (a' : Nat) (e' : Int) : Prop :=
  a' ≤ bs.length ∧ (e ≠ 0 → e' ≠ 0) ∧ (e = 0 → match d (bs.drop a) with
    | some (x, r) => v = x ∧ e' = 0 ∧ bs.drop a' = r
    | none => e' ≠ 0)
theorem Rds.prod {bs : BS} {α β : Type} {c : Codec α} {d : Codec β} {v : α} {w : β} {a a1 a2 : Nat} {e e1 e2 : Int} (h1 : Rds bs c.dec v a e a1 e1) (h2 : Rds bs d.dec w a1 e1 a2 e2) : Rds bs (Wire.prod c d).dec (v, w) a e a2 e2 := by
  obtain ⟨_, p2, p3⟩ := h1
  obtain ⟨q1, q2, q3⟩ := h2
  refine ⟨q1, fun h => q2 (p2 h), fun h => ?_⟩
  have p3 := p3 h
  simp only [Wire.prod]
  cases hc : c.dec (bs.drop a) with
  | none => rw [hc] at p3; exact q2 p3
  | some xr =>
    obtain ⟨x, r⟩ := xr
    rw [hc] at p3
    obtain ⟨rfl, he, hr⟩ := p3
    have q3 := q3 he
    rw [hr] at q3
    dsimp only
    cases hd : d.dec r with
    | none => rw [hd] at q3; exact q3
    | some ys =>
      obtain ⟨y, s⟩ := ys
      rw [hd] at q3
      obtain ⟨rfl, he2, hs⟩ := q3
      exact ⟨rfl, he2, hs⟩
theorem Rds.bool {bs : BS} {n : Int} {a a1 : Nat} {e e1 : Int} (h : Rds bs (decN 1) n a e a1 e1) : Rds bs Wire.bool.dec (n == 1) a e a1 e1 := by
  obtain ⟨p1, p2, p3⟩ := h
  refine ⟨p1, p2, fun h => ?_⟩
  have p3 := p3 h
  simp only [Wire.bool]
  cases hc : decN 1 (bs.drop a) with
  | none => rw [hc] at p3; exact p3
  | some xr =>
    obtain ⟨x, r⟩ := xr
    rw [hc] at p3
    obtain ⟨rfl, he, hr⟩ := p3
    exact ⟨rfl, he, hr⟩
/-- The reader, as an object. -/
abbrev O (bs : BS) (a : Nat) (e : Int) : List AV := [.slice (bsA bs) false .no, I64 (a : Nat), I64 e]
def or8 (n x : Int) : Int := IntKind.i64.wrap ((BitVec.ofInt 64 (IntKind.i64.wrap (n * 2 ^ 8)) ||| BitVec.ofInt 64 (IntKind.i64.wrap x)).toNat)
theorem or8_eq (n x : Nat) (hn : n < 16777216) (hx : x < 256) : or8 (n : Int) (x : Int) = ((n * 256 + x : Nat) : Int) := by
  unfold or8
  rw [wrapI (x := (n : Int) * 2 ^ 8) (by omega) (by omega), wrapI (x := (x : Int)) (by omega) (by omega)]
  rw [BitVec.toNat_or]
  have e1 : (BitVec.ofInt 64 ((n : Int) * 2 ^ 8)).toNat = n <<< 8 := by
    rw [BitVec.toNat_ofInt, Nat.shiftLeft_eq]
    have : ((n : Int) * 2 ^ 8) % ((2 ^ 64 : Nat) : Int) = ((n * 2 ^ 8 : Nat) : Int) := by omega
    rw [this]; rfl
  have e2 : (BitVec.ofInt 64 (x : Int)).toNat = x := by
    rw [BitVec.toNat_ofInt]
    have : (x : Int) % ((2 ^ 64 : Nat) : Int) = (x : Int) := by omega
    rw [this]; rfl
  rw [e1, e2, ← Nat.shiftLeft_add_eq_or_of_lt (by omega : x < 2 ^ 8), Nat.shiftLeft_eq]
  rw [wrapI (by omega) (by omega)]
set_option maxRecDepth 100000
set_option maxHeartbeats 1000000
theorem fail67 (bs : BS) (a t : Nat) (er : Int) (R : List (List AV)) : evK cfg17 67 [.hp 0 0, I64 er, I64 (t : Nat)] (O bs a 0 :: R) = some (.tup [], O bs t er :: R) := evK_at 60 (by kernel_rfl)
theorem num24 (bs : BS) (most : Int) (a : Nat) (e : Int) (R : List (List AV)) (ha : a ≤ bs.length) (hb : bs.length ≤ 1000000000) :
    ∃ (n : Int) (a' : Nat) (e' : Int), evK cfg17 24 [.hp 0 0, I64 most] (O bs a e :: R) = some (I64 n, O bs a' e' :: R) ∧ Rds bs (decN most) n a e a' e' ∧ (e' ≠ 0 → n = 0) := by
  suffices h : ∃ r H', evK cfg17 24 [.hp 0 0, I64 most] (O bs a e :: R) = some (r, H') ∧ ∃ (n : Int) (a' : Nat) (e' : Int), (r = I64 n ∧ H' = O bs a' e' :: R) ∧ Rds bs (decN most) n a e a' e' ∧ (e' ≠ 0 → n = 0) by
    obtain ⟨r, H', h, n, a', e', ⟨rfl, rfl⟩, h1, h2⟩ := h
    exact ⟨n, a', e', h, h1, h2⟩
  refine evK_ofE (P := fun r H' => ∃ (n : Int) (a' : Nat) (e' : Int), (r = I64 n ∧ H' = O bs a' e' :: R) ∧ Rds bs (decN most) n a e a' e' ∧ (e' ≠ 0 → n = 0)) Tryd.func24 rfl (of_decide_eq_true (by kernel_rfl)) (by kernel_rfl) (by kernel_rfl) rfl ?_
  unfold Tryd.f24
  dsimp only
  refine aw_sk 10 (by kernel_rfl) ?_
  refine aw_assoc (aw_sk 10 (by kernel_rfl) ?_)
  refine aw_sc (e != 0) (by kernel_rfl) (fun h => ?_) (fun h => ?_)
  · have he : e ≠ 0 := by simpa using h
    refine aw_assoc (aw_sk 10 (by kernel_rfl) ?_)
    refine aw_sret ?_
    exact ⟨.inr rfl, [I64 0], by kernel_rfl, by kernel_rfl, 0, a, e, ⟨by kernel_rfl, by kernel_rfl⟩, ⟨ha, fun _ => he, fun h => absurd h he⟩, fun _ => rfl⟩
  have he : e = 0 := by simpa using h
  subst he
  refine aw_sskip (aw_assoc (aw_sk 10 (by kernel_rfl) ?_))
  have hw : IntKind.i64.wrap (((bsA bs).length : Int) - (a : Int)) = ((bs.length - a : Nat) : Int) := by rw [bsA_len, wrapI (by omega) (by omega)]; omega
  refine aw_sc (decide (IntKind.i64.wrap (((bsA bs).length : Int) - (a : Int)) < 4)) (by kernel_rfl) (fun h => ?_) (fun h => ?_)
  · have hs : (bs.drop a).length < 4 := by
      have := of_decide_eq_true h
      rw [hw] at this
      rw [List.length_drop]; omega
    refine aw_assoc (aw_sr (ow_k 5 10 (by kernel_rfl) ?_))
    refine ow_callE0 (k := 67) (first := []) (captured := []) (xs := [.hp 0 0, I64 4, I64 (a : Nat)]) (r := .tup []) (fail67 bs a a 4 R) (by kernel_rfl) (by kernel_rfl) (by kernel_rfl) (by kernel_rfl) (by kernel_rfl) (by kernel_rfl) (by kernel_rfl) (by kernel_rfl) ?_
    refine ow_nil ?_
    refine aw_assoc (aw_sk 10 (by kernel_rfl) ?_)
    refine aw_sret ?_
    refine ⟨.inr rfl, [I64 0], by kernel_rfl, by kernel_rfl, 0, a, 4, ⟨by kernel_rfl, by kernel_rfl⟩, ⟨ha, fun h => absurd rfl h, fun _ => ?_⟩, fun _ => rfl⟩
    rw [show decN most (bs.drop a) = none by unfold decN; rw [be4_none.2 hs]]
    exact (by decide : (4 : Int) ≠ 0)
  have hs : 4 ≤ (bs.drop a).length := by
    have := of_decide_eq_false h
    rw [hw] at this
    rw [List.length_drop]; omega
  obtain ⟨x0, l0, e0, h0⟩ := cons_of (n := (bs.drop a).length - 1) (l := bs.drop a) (by omega)
  obtain ⟨x1, l1, e1, h1⟩ := cons_of (n := l0.length - 1) (l := l0) (by omega)
  obtain ⟨x2, l2, e2, h2⟩ := cons_of (n := l1.length - 1) (l := l1) (by omega)
  obtain ⟨x3, l3, e3, h3⟩ := cons_of (n := l2.length - 1) (l := l2) (by omega)
  rw [e3] at e2; rw [e2] at e1; rw [e1] at e0
  have hw4 : IntKind.i64.wrap ((a : Int) + 4) = ((a + 4 : Nat) : Int) := by rw [wrapI (by omega) (by omega)]; omega
  rw [List.length_drop] at hs
  refine aw_sskip (aw_sk 10 (by kernel_rfl) ?_)
  refine aw_assoc (aw_sr (ow_k 13 10 (by kernel_rfl) ?_))
  refine ow_sube (rows := bsA bs) (nl := false) (own := .no) (el := 5) (sz := 1) (l := (a : Nat)) (u := IntKind.i64.wrap ((a : Int) + 4)) [rowOfByte x0, rowOfByte x1, rowOfByte x2, rowOfByte x3] (by
    rw [hw4, Int.toNat_natCast, Int.toNat_natCast, List.drop_take]
    simp only [bsA, ← List.map_drop, e0]
    rw [show a + 4 - a = 4 by omega]
    rfl) (by omega) (by omega) (by rw [bsA_len]; omega) (bsA_all bs) (by kernel_rfl) (by kernel_rfl) (by kernel_rfl) (by kernel_rfl) (by kernel_rfl) (by kernel_rfl) (by kernel_rfl) ?_
  refine ow_all 10 (by kernel_rfl) ?_
  refine aw_skc 60 (by kernel_rfl) (by kernel_rfl) ?_
  have hx0 := x0.toNat_lt; have hx1 := x1.toNat_lt; have hx2 := x2.toNat_lt; have hx3 := x3.toNat_lt
  have hv : or8 (or8 (or8 (or8 0 x0.toNat) x1.toNat) x2.toNat) x3.toNat = ((((x0.toNat * 256 + x1.toNat) * 256 + x2.toNat) * 256 + x3.toNat : Nat) : Int) := by
    rw [show (0 : Int) = ((0 : Nat) : Int) from rfl, or8_eq 0 _ (by omega) hx0, or8_eq _ _ (by omega) hx1, or8_eq _ _ (by omega) hx2, or8_eq _ _ (by omega) hx3]
    congr 1; omega
  refine aw_absE 72 (O bs a 0 :: R) (O bs a 0 :: R) (cfg17.heap 24) [(0, .hp 0 0), (1, I64 most), (5, I64 ((((x0.toNat * 256 + x1.toNat) * 256 + x2.toNat) * 256 + x3.toNat : Nat) : Int))] [(0, .hp 0 0), (1, I64 most), (5, I64 (or8 (or8 (or8 (or8 0 x0.toNat) x1.toNat) x2.toNat) x3.toNat))] (by rw [hv]) rfl (by kernel_rfl) (fun t9 c9 al9 => ?_)
  have hbe : be4 (bs.drop a) = some (((x0.toNat * 256 + x1.toNat) * 256 + x2.toNat) * 256 + x3.toNat, l3) := by rw [e0]; rfl
  generalize ((x0.toNat * 256 + x1.toNat) * 256 + x2.toNat) * 256 + x3.toNat = N at hbe
  refine aw_assoc (aw_sk 10 (by kernel_rfl) ?_)
  refine aw_sc (decide (most < (N : Int))) (by kernel_rfl) (fun h => ?_) (fun h => ?_)
  · have hm := of_decide_eq_true h
    refine aw_assoc (aw_sr (ow_k 5 10 (by kernel_rfl) ?_))
    refine ow_callE0 (k := 67) (first := []) (captured := []) (xs := [.hp 0 0, I64 5, I64 (a : Nat)]) (r := .tup []) (fail67 bs a a 5 R) (by kernel_rfl) (by kernel_rfl) (by kernel_rfl) (by kernel_rfl) (by kernel_rfl) (by kernel_rfl) (by kernel_rfl) (by kernel_rfl) ?_
    refine ow_nil ?_
    refine aw_assoc (aw_sk 10 (by kernel_rfl) ?_)
    refine aw_sret ?_
    refine ⟨.inr rfl, [I64 0], by kernel_rfl, by kernel_rfl, 0, a, 5, ⟨by kernel_rfl, by kernel_rfl⟩, ⟨ha, fun h => absurd rfl h, fun _ => ?_⟩, fun _ => rfl⟩
    rw [show decN most (bs.drop a) = none by unfold decN; rw [hbe]; exact if_pos hm]
    exact (by decide : (5 : Int) ≠ 0)
  · have hm := of_decide_eq_false h
    refine aw_sskip (aw_sk 10 (by kernel_rfl) ?_)
    refine aw_sk 10 (by kernel_rfl) ?_
    refine aw_ret ?_
    refine ⟨.inr rfl, [I64 (N : Int)], by kernel_rfl, by kernel_rfl, (N : Int), a + 4, 0, ⟨by kernel_rfl, Eq.trans (b := [.slice (bsA bs) false .no, I64 (IntKind.i64.wrap ((a : Int) + 4)), I64 0] :: R) (by kernel_rfl) (by rw [hw4])⟩, ⟨by omega, fun h => absurd rfl h, fun _ => ?_⟩, fun h => absurd rfl h⟩
    rw [show decN most (bs.drop a) = some ((N : Int), l3) by unfold decN; rw [hbe]; exact if_neg (by omega)]
    refine ⟨rfl, rfl, ?_⟩
    rw [← List.drop_drop, e0]
    rfl
end Go.Proofs.V
namespace Go.Proofs.V
open Go Go.Proofs Go.Proofs.V.Wire
set_option linter.unusedVariables false
set_option linter.unusedSimpArgs false
set_option maxRecDepth 100000
set_option maxHeartbeats 1000000
theorem err68 (bs : BS) (a : Nat) (e : Int) (R : List (List AV)) : evK cfg17 68 [.hp 0 0] (O bs a e :: R) = some (I64 e, O bs a e :: R) := evK_at 60 (by kernel_rfl)
theorem string69 (bs : BS) (most : Int) (a : Nat) (e : Int) (R : List (List AV)) (ha : a ≤ bs.length) (hb : bs.length ≤ 1000000000) :
    ∃ (s : BS) (a' : Nat) (e' : Int), evK cfg17 69 [.hp 0 0, I64 most] (O bs a e :: R) = some (ST s, O bs a' e' :: R) ∧ Rds bs (decS most) s a e a' e' := by
  suffices h : ∃ r H', evK cfg17 69 [.hp 0 0, I64 most] (O bs a e :: R) = some (r, H') ∧ ∃ (s : BS) (a' : Nat) (e' : Int), (r = ST s ∧ H' = O bs a' e' :: R) ∧ Rds bs (decS most) s a e a' e' by
    obtain ⟨r, H', h, n, a', e', ⟨rfl, rfl⟩, h1⟩ := h
    exact ⟨n, a', e', h, h1⟩
  have hmin : (if (16384 : Int) < most then (16384 : Int) else most) = min most 16384 := by split <;> omega
  obtain ⟨n, a1, e1, hn, ⟨p1, p2, p3⟩, p4⟩ := num24 bs (if (16384 : Int) < most then (16384 : Int) else most) a e R ha hb
  rw [hmin] at p3
  refine evK_ofE (P := fun r H' => ∃ (s : BS) (a' : Nat) (e' : Int), (r = ST s ∧ H' = O bs a' e' :: R) ∧ Rds bs (decS most) s a e a' e') Tryd.func69 rfl (of_decide_eq_true (by kernel_rfl)) (by kernel_rfl) (by kernel_rfl) rfl ?_
  unfold Tryd.f69
  dsimp only
  refine aw_sk 10 (by kernel_rfl) ?_
  refine aw_sk 10 (by kernel_rfl) ?_
  refine aw_sr (ow_k 3 10 (by kernel_rfl) ?_)
  refine ow_callE0 (k := 24) (first := []) (captured := []) (xs := [.hp 0 0, I64 (if (16384 : Int) < most then (16384 : Int) else most)]) (r := I64 n) hn (by kernel_rfl) (by kernel_rfl) (by kernel_rfl) (by kernel_rfl) (by kernel_rfl) (by kernel_rfl) (by kernel_rfl) (by kernel_rfl) ?_
  refine ow_all 10 (by kernel_rfl) ?_
  refine aw_abs 66 (O bs a1 e1 :: R) (cfg17.heap 69) [(0, .hp 0 0), (5, I64 (a : Nat)), (6, I64 n)] (by kernel_rfl) (fun t1 c1 al1 => ?_)
  by_cases he1 : e1 = 0
  · subst he1
    have he : e = 0 := Classical.byContradiction fun h => p2 h rfl
    have p3 := p3 he
    cases hd : decN (min most 16384) (bs.drop a) with
    | none => rw [hd] at p3; exact absurd rfl p3
    | some xr =>
    obtain ⟨x, r⟩ := xr
    rw [hd] at p3
    obtain ⟨rfl, -, hr⟩ := p3
    obtain ⟨_, hn0, hn1, hn2⟩ := (num (min most 16384)).B _ _ _ hd
    have hrl : r.length = bs.length - a1 := by rw [← hr, List.length_drop]
    have hw : IntKind.i64.wrap (((bsA bs).length : Int) - (a1 : Int)) = ((bs.length - a1 : Nat) : Int) := by rw [bsA_len, wrapI (by omega) (by omega)]; omega
    refine aw_assoc (aw_sk 10 (by kernel_rfl) ?_)
    refine aw_sc (decide (IntKind.i64.wrap (((bsA bs).length : Int) - (a1 : Int)) < n)) (by kernel_rfl) (fun h => ?_) (fun h => ?_)
    · have hlt := of_decide_eq_true h
      rw [hw] at hlt
      refine aw_sr (ow_k 2 10 (by kernel_rfl) ?_)
      refine ow_callE0 (k := 67) (first := []) (captured := []) (xs := [.hp 0 0, I64 4, I64 (a : Nat)]) (r := .tup []) (fail67 bs a1 a 4 R) (by kernel_rfl) (by kernel_rfl) (by kernel_rfl) (by kernel_rfl) (by kernel_rfl) (by kernel_rfl) (by kernel_rfl) (by kernel_rfl) ?_
      refine ow_nil ?_
      refine aw_assoc (aw_sk 10 (by kernel_rfl) ?_)
      refine aw_sc true (by kernel_rfl) (fun _ => ?_) (fun h => by cases h)
      refine aw_assoc (aw_sk 10 (by kernel_rfl) ?_)
      refine aw_sret ?_
      refine ⟨.inr rfl, [ST []], by kernel_rfl, by kernel_rfl, [], a, 4, ⟨by kernel_rfl, by kernel_rfl⟩, ha, fun _ => by decide, fun _ => ?_⟩
      rw [show decS most (bs.drop a) = none by unfold decS; rw [hd]; exact if_pos (by omega)]
      exact (by decide : (4 : Int) ≠ 0)
    · have hge := of_decide_eq_false h
      rw [hw] at hge
      have hwn : IntKind.i64.wrap ((a1 : Int) + n) = ((a1 + n.toNat : Nat) : Int) := by rw [wrapI (by omega) (by omega)]; omega
      refine aw_sskip (aw_assoc (aw_sk 10 (by kernel_rfl) ?_))
      refine aw_sc false (by kernel_rfl) (fun h => by cases h) (fun _ => ?_)
      refine aw_sskip (aw_sk 10 (by kernel_rfl) ?_)
      refine aw_absE 66 (O bs (a1 + n.toNat) 0 :: R) ([.slice (bsA bs) false .no, I64 (IntKind.i64.wrap ((a1 : Int) + n)), I64 0] :: R) (cfg17.heap 69) [(0, .hp 0 0), (6, I64 n)] _ rfl (by rw [hwn]) (by kernel_rfl) (fun t2 c2 al2 => ?_)
      have hwm : IntKind.i64.wrap (((a1 + n.toNat : Nat) : Int) - n) = (a1 : Int) := by rw [wrapI (by omega) (by omega)]; omega
      refine aw_sr (ow_k 14 10 (by kernel_rfl) ?_)
      refine ow_sube (rows := bsA bs) (nl := false) (own := .no) (el := 5) (sz := 1) (l := IntKind.i64.wrap (((a1 + n.toNat : Nat) : Int) - n)) (u := ((a1 + n.toNat : Nat) : Int)) (bsA (r.take n.toNat)) (by
        rw [hwm, Int.toNat_natCast, Int.toNat_natCast, List.drop_take, ← hr]
        simp only [bsA, ← List.map_drop, ← List.map_take]
        rw [show a1 + n.toNat - a1 = n.toNat by omega]) (by omega) (by omega) (by rw [bsA_len]; omega) (bsA_all bs) (by kernel_rfl) (by kernel_rfl) (by kernel_rfl) (by kernel_rfl) (by kernel_rfl) (by kernel_rfl) (by kernel_rfl) ?_
      refine ow_toS (bs := r.take n.toNat) (nl := false) (own := .no) (e := 5) (by kernel_rfl) (by kernel_rfl) (by kernel_rfl) (by kernel_rfl) (by kernel_rfl) (by kernel_rfl) ?_
      refine ow_all 10 (by kernel_rfl) ?_
      refine aw_ret ?_
      refine ⟨.inr rfl, [ST (r.take n.toNat)], by kernel_rfl, by kernel_rfl, r.take n.toNat, a1 + n.toNat, 0, ⟨by kernel_rfl, by kernel_rfl⟩, by omega, fun h => absurd he h, fun _ => ?_⟩
      rw [show decS most (bs.drop a) = some (r.take n.toNat, r.drop n.toNat) by unfold decS; rw [hd]; exact if_neg (by omega)]
      exact ⟨rfl, rfl, by rw [← hr, List.drop_drop]⟩
  · have hf : (e1 == 0) = false := by simpa using he1
    have hq : Rds bs (decS most) [] a e a1 e1 := by
      refine ⟨p1, fun _ => he1, fun h => ?_⟩
      have p3 := p3 h
      cases hd : decN (min most 16384) (bs.drop a) with
      | some xr =>
        obtain ⟨x, r⟩ := xr
        rw [hd] at p3
        exact absurd p3.2.1 he1
      | none =>
        rw [show decS most (bs.drop a) = none by unfold decS; rw [hd]]
        exact he1
    refine aw_assoc (aw_sr (ow_k 4 10 (by kernel_rfl) ?_))
    refine ow_is (x := (e1 == 0)) (w := false) hf (by kernel_rfl) (by kernel_rfl) (by kernel_rfl) (by kernel_rfl) (by kernel_rfl) ?_
    refine ow_all 10 (by kernel_rfl) ?_
    refine aw_sc false (by kernel_rfl) (fun h => by cases h) (fun _ => ?_)
    refine aw_sskip (aw_assoc (aw_sk 10 (by kernel_rfl) ?_))
    refine aw_sc (e1 != 0) (by kernel_rfl) (fun _ => ?_) (fun h => absurd (by simpa using h) he1)
    refine aw_assoc (aw_sk 10 (by kernel_rfl) ?_)
    refine aw_sret ?_
    exact ⟨.inr rfl, [ST []], by kernel_rfl, by kernel_rfl, [], a1, e1, ⟨by kernel_rfl, by kernel_rfl⟩, hq⟩
theorem number31 (bs : BS) (a : Nat) (e : Int) (R : List (List AV)) (ha : a ≤ bs.length) (hb : bs.length ≤ 1000000000) :
    ∃ (n : Int) (a' : Nat) (e' : Int), evK cfg17 31 [.hp 0 0] (O bs a e :: R) = some (I64 n, O bs a' e' :: R) ∧ Rds bs (decN maxN) n a e a' e' := by
  obtain ⟨n, a1, e1, hn, p, _⟩ := num24 bs 4294967295 a e R ha hb
  refine ⟨n, a1, e1, ?_, p⟩
  refine evK_of Tryd.func31 rfl (of_decide_eq_true (by kernel_rfl)) (by kernel_rfl) (by kernel_rfl) rfl ?_
  unfold Tryd.f31
  dsimp only
  refine aw_sk 10 (by kernel_rfl) ?_
  refine aw_sr (ow_k 1 10 (by kernel_rfl) ?_)
  refine ow_callE0 (k := 24) (first := []) (captured := []) (xs := [.hp 0 0, I64 4294967295]) (r := I64 n) hn (by kernel_rfl) (by kernel_rfl) (by kernel_rfl) (by kernel_rfl) (by kernel_rfl) (by kernel_rfl) (by kernel_rfl) (by kernel_rfl) ?_
  refine ow_all 10 (by kernel_rfl) ?_
  refine aw_ret ?_
  exact ⟨.inr rfl, [I64 n], by kernel_rfl, by kernel_rfl, by kernel_rfl, by kernel_rfl⟩
theorem set32 (bs : BS) (a : Nat) (e : Int) (R : List (List AV)) (ha : a ≤ bs.length) (hb : bs.length ≤ 1000000000) :
    ∃ (b : Bool) (a' : Nat) (e' : Int), evK cfg17 32 [.hp 0 0] (O bs a e :: R) = some (BO b, O bs a' e' :: R) ∧ Rds bs Wire.bool.dec b a e a' e' := by
  obtain ⟨n, a1, e1, hn, p, _⟩ := num24 bs 1 a e R ha hb
  refine ⟨n == 1, a1, e1, ?_, p.bool⟩
  refine evK_of Tryd.func32 rfl (of_decide_eq_true (by kernel_rfl)) (by kernel_rfl) (by kernel_rfl) rfl ?_
  unfold Tryd.f32
  dsimp only
  refine aw_sk 10 (by kernel_rfl) ?_
  refine aw_sr (ow_k 1 10 (by kernel_rfl) ?_)
  refine ow_callE0 (k := 24) (first := []) (captured := []) (xs := [.hp 0 0, I64 1]) (r := I64 n) hn (by kernel_rfl) (by kernel_rfl) (by kernel_rfl) (by kernel_rfl) (by kernel_rfl) (by kernel_rfl) (by kernel_rfl) (by kernel_rfl) ?_
  refine ow_all 10 (by kernel_rfl) ?_
  refine aw_ret ?_
  exact ⟨.inr rfl, [BO (n == 1)], by kernel_rfl, by kernel_rfl, by kernel_rfl, by kernel_rfl⟩
theorem readFile26 (bs : BS) (a : Nat) (e : Int) (R : List (List AV)) (ha : a ≤ bs.length) (hb : bs.length ≤ 1000000000) :
    ∃ (x : Fi) (a' : Nat) (e' : Int), evK cfg17 26 [.hp 0 0] (O bs a e :: R) = some (.agg (rowFi x), O bs a' e' :: R) ∧ Rds bs cFi.dec x a e a' e' := by
  obtain ⟨s, a1, e1, h1, p1⟩ := string69 bs 52 a e R ha hb
  obtain ⟨d, a2, e2, h2, p2⟩ := string69 bs 600 a1 e1 R p1.1 hb
  refine ⟨(s, d), a2, e2, ?_, Rds.prod (c := str 52) (d := str 600) p1 p2⟩
  refine evK_of Tryd.func26 rfl (of_decide_eq_true (by kernel_rfl)) (by kernel_rfl) (by kernel_rfl) rfl ?_
  unfold Tryd.f26
  dsimp only
  refine aw_sk 10 (by kernel_rfl) ?_
  refine aw_sr (ow_k 1 10 (by kernel_rfl) ?_)
  refine ow_callE0 (k := 69) (first := []) (captured := []) (xs := [.hp 0 0, I64 52]) (r := ST s) h1 (by kernel_rfl) (by kernel_rfl) (by kernel_rfl) (by kernel_rfl) (by kernel_rfl) (by kernel_rfl) (by kernel_rfl) (by kernel_rfl) ?_
  refine ow_all 10 (by kernel_rfl) ?_
  refine aw_sr (ow_k 1 10 (by kernel_rfl) ?_)
  refine ow_callE0 (k := 69) (first := []) (captured := []) (xs := [.hp 0 0, I64 600]) (r := ST d) h2 (by kernel_rfl) (by kernel_rfl) (by kernel_rfl) (by kernel_rfl) (by kernel_rfl) (by kernel_rfl) (by kernel_rfl) (by kernel_rfl) ?_
  refine ow_all 10 (by kernel_rfl) ?_
  refine aw_sk 10 (by kernel_rfl) ?_
  refine aw_ret ?_
  exact ⟨.inr rfl, [.agg [ST s, ST d]], by kernel_rfl, by kernel_rfl, by kernel_rfl, by kernel_rfl⟩
theorem readPut35 (bs : BS) (a : Nat) (e : Int) (R : List (List AV)) (ha : a ≤ bs.length) (hb : bs.length ≤ 1000000000) :
    ∃ (x : Pu) (a' : Nat) (e' : Int), evK cfg17 35 [.hp 0 0] (O bs a e :: R) = some (.agg (rowPu x), O bs a' e' :: R) ∧ Rds bs cPu.dec x a e a' e' := by
  obtain ⟨s, a1, e1, h1, p1⟩ := number31 bs a e R ha hb
  obtain ⟨d, a2, e2, h2, p2⟩ := string69 bs 16 a1 e1 R p1.1 hb
  refine ⟨(s, d), a2, e2, ?_, Rds.prod (c := num maxN) (d := str 16) p1 p2⟩
  refine evK_of Tryd.func35 rfl (of_decide_eq_true (by kernel_rfl)) (by kernel_rfl) (by kernel_rfl) rfl ?_
  unfold Tryd.f35
  dsimp only
  refine aw_sk 10 (by kernel_rfl) ?_
  refine aw_sr (ow_k 1 10 (by kernel_rfl) ?_)
  refine ow_callE0 (k := 31) (first := []) (captured := []) (xs := [.hp 0 0]) (r := I64 s) h1 (by kernel_rfl) (by kernel_rfl) (by kernel_rfl) (by kernel_rfl) (by kernel_rfl) (by kernel_rfl) (by kernel_rfl) (by kernel_rfl) ?_
  refine ow_all 10 (by kernel_rfl) ?_
  refine aw_sr (ow_k 1 10 (by kernel_rfl) ?_)
  refine ow_callE0 (k := 69) (first := []) (captured := []) (xs := [.hp 0 0, I64 16]) (r := ST d) h2 (by kernel_rfl) (by kernel_rfl) (by kernel_rfl) (by kernel_rfl) (by kernel_rfl) (by kernel_rfl) (by kernel_rfl) (by kernel_rfl) ?_
  refine ow_all 10 (by kernel_rfl) ?_
  refine aw_sk 10 (by kernel_rfl) ?_
  refine aw_ret ?_
  exact ⟨.inr rfl, [.agg [I64 s, ST d]], by kernel_rfl, by kernel_rfl, by kernel_rfl, by kernel_rfl⟩
theorem readEntry28 (bs : BS) (a : Nat) (e : Int) (R : List (List AV)) (ha : a ≤ bs.length) (hb : bs.length ≤ 1000000000) :
    ∃ (x : En) (a' : Nat) (e' : Int), evK cfg17 28 [.hp 0 0] (O bs a e :: R) = some (.agg (rowEn x), O bs a' e' :: R) ∧ Rds bs cEn.dec x a e a' e' := by
  obtain ⟨s, a1, e1, h1, p1⟩ := string69 bs 52 a e R ha hb
  obtain ⟨b, a2, e2, h2, p2⟩ := set32 bs a1 e1 R p1.1 hb
  obtain ⟨d, a3, e3, h3, p3⟩ := string69 bs 600 a2 e2 R p2.1 hb
  obtain ⟨l, a4, e4, h4, p4⟩ := number31 bs a3 e3 R p3.1 hb
  obtain ⟨r, a5, e5, h5, p5⟩ := number31 bs a4 e4 R p4.1 hb
  refine ⟨(s, b, d, l, r), a5, e5, ?_, Rds.prod (c := str 52) p1 (Rds.prod (c := Wire.bool) p2 (Rds.prod (c := str 600) p3 (Rds.prod (c := num maxN) (d := num maxN) p4 p5)))⟩
  refine evK_of Tryd.func28 rfl (of_decide_eq_true (by kernel_rfl)) (by kernel_rfl) (by kernel_rfl) rfl ?_
  unfold Tryd.f28
  dsimp only
  refine aw_sk 10 (by kernel_rfl) ?_
  refine aw_sr (ow_k 1 10 (by kernel_rfl) ?_)
  refine ow_callE0 (k := 69) (first := []) (captured := []) (xs := [.hp 0 0, I64 52]) (r := ST s) h1 (by kernel_rfl) (by kernel_rfl) (by kernel_rfl) (by kernel_rfl) (by kernel_rfl) (by kernel_rfl) (by kernel_rfl) (by kernel_rfl) ?_
  refine ow_all 10 (by kernel_rfl) ?_
  refine aw_sr (ow_k 1 10 (by kernel_rfl) ?_)
  refine ow_callE0 (k := 32) (first := []) (captured := []) (xs := [.hp 0 0]) (r := BO b) h2 (by kernel_rfl) (by kernel_rfl) (by kernel_rfl) (by kernel_rfl) (by kernel_rfl) (by kernel_rfl) (by kernel_rfl) (by kernel_rfl) ?_
  refine ow_all 10 (by kernel_rfl) ?_
  refine aw_sr (ow_k 1 10 (by kernel_rfl) ?_)
  refine ow_callE0 (k := 69) (first := []) (captured := []) (xs := [.hp 0 0, I64 600]) (r := ST d) h3 (by kernel_rfl) (by kernel_rfl) (by kernel_rfl) (by kernel_rfl) (by kernel_rfl) (by kernel_rfl) (by kernel_rfl) (by kernel_rfl) ?_
  refine ow_all 10 (by kernel_rfl) ?_
  refine aw_sr (ow_k 1 10 (by kernel_rfl) ?_)
  refine ow_callE0 (k := 31) (first := []) (captured := []) (xs := [.hp 0 0]) (r := I64 l) h4 (by kernel_rfl) (by kernel_rfl) (by kernel_rfl) (by kernel_rfl) (by kernel_rfl) (by kernel_rfl) (by kernel_rfl) (by kernel_rfl) ?_
  refine ow_all 10 (by kernel_rfl) ?_
  refine aw_sr (ow_k 1 10 (by kernel_rfl) ?_)
  refine ow_callE0 (k := 31) (first := []) (captured := []) (xs := [.hp 0 0]) (r := I64 r) h5 (by kernel_rfl) (by kernel_rfl) (by kernel_rfl) (by kernel_rfl) (by kernel_rfl) (by kernel_rfl) (by kernel_rfl) (by kernel_rfl) ?_
  refine ow_all 10 (by kernel_rfl) ?_
  refine aw_sk 10 (by kernel_rfl) ?_
  refine aw_ret ?_
  exact ⟨.inr rfl, [.agg [ST s, BO b, ST d, I64 l, I64 r]], by kernel_rfl, by kernel_rfl, by kernel_rfl, by kernel_rfl⟩
end Go.Proofs.V
