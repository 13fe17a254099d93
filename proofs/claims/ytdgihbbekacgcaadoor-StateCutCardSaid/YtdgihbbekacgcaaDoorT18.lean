/- Sorted paths; a state's own chain. -/
import Derived.Test.YtdgihbbekacgcaaDoorT15
namespace Go.Proofs.V
open Go Go.Proofs Go.Proofs.V.Wire
set_option linter.unusedVariables false
set_option linter.unusedSimpArgs false
set_option maxRecDepth 100000
set_option maxHeartbeats 1000000
theorem sorted22 (l : List BS) (nl : Bool) (o : Own) (hlen : l.length ≤ 1000000) (hx : ∀ x ∈ l, x.length ≤ 1000000) : ∃ b, callQ cfg17 (evK cfg17) 22 [.slice (l.map rowS) nl o] = some (BO b) ∧ (b = true → ∀ x ∈ l, x.length ≤ 51) := by
  suffices h : ∃ r H', evK cfg17 22 [.slice (l.map rowS) nl o] [] = some (r, H') ∧ (∃ b, r = BO b ∧ (b = true → ∀ x ∈ l, x.length ≤ 51)) ∧ H' = [] by
    obtain ⟨r, H', h, ⟨b, rfl, hb⟩, rfl⟩ := h
    exact ⟨b, callQ_of (by kernel_rfl) h, hb⟩
  refine evK_ofE (P := fun r H' => (∃ b, r = BO b ∧ (b = true → ∀ x ∈ l, x.length ≤ 51)) ∧ H' = []) Tryd.func22 rfl (of_decide_eq_true (by kernel_rfl)) (by kernel_rfl) (by kernel_rfl) rfl ?_
  unfold Tryd.f22
  dsimp only
  refine aw_sk 10 (by kernel_rfl) ?_
  refine aw_assoc (aw_sk 10 (by kernel_rfl) ?_)
  refine aw_sfor l.length (fun i F => Is 29 [] (cfg17.heap 22) [(0, .slice (l.map rowS) nl o), (5, .slice (l.map rowS) nl o), (6, I64 (l.map rowS).length), (7, I64 (i : Nat))] F ∧ ∀ x ∈ l.take i, x.length ≤ 51) ?_ ?_ ?_
  · exact ⟨is_of (by kernel_rfl), by simp⟩
  · rintro i F hi ⟨⟨t, c, al, rfl⟩, hpre⟩
    have hi64 : i < 4611686018427387904 := by omega
    obtain ⟨b1, h1, g1⟩ := right58 l[i] (hx _ (List.getElem_mem hi))
    refine aw_sk 10 (by kernel_rfl) ?_
    refine aw_sc (decide ((i : Int) < ((l.map rowS).length : Int))) (by kernel_rfl) (fun _ => ?_) (fun h => absurd (of_decide_eq_false h) (by rw [List.length_map]; omega))
    refine aw_sskip (aw_seq (aw_block (aw_sr (ow_k 1 10 (by kernel_rfl) ?_))))
    refine ow_at (rows := l.map rowS) (nl := nl) (own := o) (row := rowS l[i]) (n := i) (e := 9) (row_at _ _ _ hi) (by omega) (by kernel_rfl) (by kernel_rfl) (by kernel_rfl) (by kernel_rfl) (by kernel_rfl) (by kernel_rfl) ?_
    refine ow_all 10 (by kernel_rfl) ?_
    refine aw_mid (IsB 29 [] (cfg17.heap 22) 27 (fun v => v = false → l[i].length ≤ 51) [(0, .slice (l.map rowS) nl o), (5, .slice (l.map rowS) nl o), (6, I64 (l.map rowS).length), (7, I64 (i : Nat))]) ?_ ?_
    · refine ow_k 1 10 (by kernel_rfl) ?_
      refine ow_callG (k := 58) (first := []) (captured := []) (xs := [ST l[i]]) (r := BO b1) (by kernel_rfl) (by kernel_rfl) (by kernel_rfl) (by kernel_rfl) (by kernel_rfl) (by kernel_rfl) h1 (by kernel_rfl) (by kernel_rfl) ?_
      cases b1 with
      | false =>
        refine ow_all 10 (by kernel_rfl) ?_
        exact isB_of true (fun h => by cases h) (by kernel_rfl)
      | true =>
        refine ow_k 3 10 (by kernel_rfl) ?_
        cases hG : decide ((0 : Int) < (i : Int)) with
        | false =>
          refine ow_is (x := decide ((0 : Int) < (i : Int))) (w := false) hG (by kernel_rfl) (by kernel_rfl) (by kernel_rfl) (by kernel_rfl) (by kernel_rfl) ?_
          refine ow_all 10 (by kernel_rfl) ?_
          exact isB_of false (fun _ => g1 rfl) (by kernel_rfl)
        | true =>
          refine ow_is (x := decide ((0 : Int) < (i : Int))) (w := true) hG (by kernel_rfl) (by kernel_rfl) (by kernel_rfl) (by kernel_rfl) (by kernel_rfl) ?_
          have h0i : 0 < i := by have := of_decide_eq_true hG; omega
          refine ow_k 5 10 (by kernel_rfl) ?_
          refine ow_at (rows := l.map rowS) (nl := nl) (own := o) (row := rowS (l[i - 1]'(by omega))) (n := IntKind.i64.wrap ((i : Int) - 1)) (e := 9) (row_atp _ _ _ h0i hi hi64) (by rw [pred64 h0i hi64]; omega) (by kernel_rfl) (by kernel_rfl) (by kernel_rfl) (by kernel_rfl) (by kernel_rfl) (by kernel_rfl) ?_
          refine ow_k 1 10 (by kernel_rfl) ?_
          refine ow_any (by kernel_rfl) (by kernel_rfl) (by kernel_rfl) (by kernel_rfl) (by kernel_rfl) (fun w => ?_)
          cases w with
          | true =>
            refine ow_all 10 (by kernel_rfl) ?_
            exact isB_of true (fun h => by cases h) (by kernel_rfl)
          | false =>
            refine ow_all 10 (by kernel_rfl) ?_
            exact isB_of false (fun _ => g1 rfl) (by kernel_rfl)
    · rintro F ⟨v, hv, t, c, al, rfl⟩
      refine aw_cond (t := v) (by kernel_rfl) (fun _ => ?_) (fun h => ?_)
      · refine aw_sk 10 (by kernel_rfl) ?_
        refine aw_ret ?_
        exact ⟨.inr rfl, [BO false], by kernel_rfl, by kernel_rfl, ⟨false, by kernel_rfl, fun h => by cases h⟩, by kernel_rfl⟩
      · refine aw_skip ?_
        refine aw_rk 10 (by kernel_rfl) ?_
        exact ⟨is_at (l' := [(0, .slice (l.map rowS) nl o), (5, .slice (l.map rowS) nl o), (6, I64 (l.map rowS).length), (7, I64 (IntKind.i64.wrap ((i : Int) + 1)))]) (by rw [succ64 (by omega)]) (by kernel_rfl), mem_take_next hi hpre (hv h)⟩
  · rintro F ⟨⟨t, c, al, rfl⟩, hpre⟩
    rw [List.take_length] at hpre
    refine aw_sk 10 (by kernel_rfl) ?_
    refine aw_sc (decide ((l.length : Int) < ((l.map rowS).length : Int))) (by kernel_rfl) (fun h => absurd (of_decide_eq_true h) (by rw [List.length_map]; omega)) (fun _ => ?_)
    refine aw_sexit ?_
    dsimp only [Then, InBlock, if_true]
    refine aw_sk 10 (by kernel_rfl) ?_
    refine aw_ret ?_
    exact ⟨.inr rfl, [BO true], by kernel_rfl, by kernel_rfl, ⟨true, by kernel_rfl, fun _ => hpre⟩, by kernel_rfl⟩
theorem ok_num (n : Int) (most : Int) (h : 0 ≤ n ∧ n ≤ most) (h2 : most ≤ 4294967295) : (num most).ok n := ⟨h.1, h.2, by omega⟩
theorem okCu (w h e : Int) (h1 : 0 ≤ w ∧ w ≤ 4294967295) (h2 : 0 ≤ h ∧ h ≤ 4294967295) (h3 : 0 ≤ e ∧ e ≤ 4294967295) : cCu.ok (w, h, e, 0) :=
  ⟨⟨h1.1, h1.2, h1.2⟩, ⟨h2.1, h2.2, h2.2⟩, ⟨h3.1, h3.2, h3.2⟩, ⟨Int.le_refl 0, (by decide : (0 : Int) ≤ 4294967295), (by decide : (0 : Int) ≤ 4294967295)⟩⟩
def chP (ow : List Int) (ch : Cu) : Prop := ow.length ≤ 200 ∧ (∀ n ∈ ow, 0 ≤ n ∧ n ≤ 4294967295) ∧ (0 ≤ ch.2.2.1 ∧ ch.2.2.1 ≤ 100) ∧ ch = (((ow.map rowN).length : Int), ow.getLastD 0, ch.2.2.1, (0 : Int))
theorem chP_ok {ow : List Int} {ch : Cu} (h : chP ow ch) : ow.length ≤ 200 ∧ (∀ n ∈ ow, 0 ≤ n ∧ n ≤ 4294967295) ∧ cCu.ok ch := by
  obtain ⟨h1, h2, h3, h4⟩ := h
  refine ⟨h1, h2, ?_⟩
  rw [h4]
  refine okCu _ _ _ ⟨by omega, by rw [List.length_map]; omega⟩ ?_ ⟨h3.1, by omega⟩
  cases ow with
  | nil => exact ⟨by decide, by decide⟩
  | cons x l =>
    rw [List.getLastD_cons]
    rcases List.eq_nil_or_concat l with rfl | ⟨m, y, rfl⟩
    · exact h2 x List.mem_cons_self
    · have := h2 y (by simp)
      simpa using this
theorem chained21 (s : Stt) (z : Nl) (hz : OkZ z) {H : List (List AV)} (hs : s.2.2.2.2.1.length ≤ 300) : ∃ b, evK cfg17 21 [.agg (cellsSt s z)] H = some (BO b, H) ∧ (b = true ↔ chP s.2.2.2.2.1 s.2.2.2.1) := by
  obtain ⟨a, tr, ar, ch, ow, sh, tu, pe, th, co, wa, ha⟩ := s
  dsimp only at hs ⊢
  suffices h : ∃ r H', evK cfg17 21 [.agg (cellsSt (a, tr, ar, ch, ow, sh, tu, pe, th, co, wa, ha) z)] H = some (r, H') ∧ (∃ b, r = BO b ∧ (b = true ↔ chP ow ch)) ∧ H' = H by
    obtain ⟨r, H', h, ⟨b, rfl, hb⟩, rfl⟩ := h
    exact ⟨b, h, hb⟩
  refine evK_ofE (P := fun r H' => (∃ b, r = BO b ∧ (b = true ↔ chP ow ch)) ∧ H' = H) Tryd.func21 rfl (of_decide_eq_true (by kernel_rfl)) (by kernel_rfl) (by kernel_rfl) rfl ?_
  unfold Tryd.f21
  dsimp only
  refine aw_sk 10 (by kernel_rfl) ?_
  refine aw_absE 45 H H (cfg17.heap 21) [(1, .box 0 (cellsSt (a, tr, ar, ch, ow, sh, tu, pe, th, co, wa, ha) z))] [(1, .box 0 ((cellsSt (a, tr, ar, ch, ow, sh, tu, pe, th, co, wa, ha) z).map strip1))] (by rw [strip1_st _ hz]) rfl (by kernel_rfl) (fun t9 c9 al9 => ?_)
  refine aw_sk 10 (by kernel_rfl) ?_
  refine aw_assoc (aw_sk 10 (by kernel_rfl) ?_)
  refine aw_assoc (aw_sk 10 (by kernel_rfl) ?_)
  refine aw_sc (decide ((0 : Int) < ((ow.map rowN).length : Int))) (by kernel_rfl) (fun h => ?_) (fun h => ?_)
  · have hpos : 0 < ow.length := by
      have := of_decide_eq_true h
      rw [List.length_map] at this
      omega
    have hwr : IntKind.i64.wrap (((ow.map rowN).length : Int) - 1) = ((ow.length - 1 : Nat) : Int) := by rw [List.length_map]; exact pred64 hpos (by omega)
    refine aw_sr (ow_k 4 10 (by kernel_rfl) ?_)
    refine ow_at (rows := ow.map rowN) (nl := z.own) (own := z.ownO) (row := rowN (ow[ow.length - 1]'(by omega))) (n := IntKind.i64.wrap (((ow.map rowN).length : Int) - 1)) (e := 3) (by rw [hwr]; exact row_at rowN ow (ow.length - 1) (by omega)) (by rw [hwr]; omega) (by kernel_rfl) (by kernel_rfl) (by kernel_rfl) (by kernel_rfl) (by kernel_rfl) (by kernel_rfl) ?_
    refine ow_all 10 (by kernel_rfl) ?_
    refine aw_abs 45 H (cfg17.heap 21) [(1, .box 0 (cellsSt (a, tr, ar, ch, ow, sh, tu, pe, th, co, wa, ha) z)), (3, I64 (ow[ow.length - 1]'(by omega)))] (by kernel_rfl) (fun t1 c1 al1 => ?_)
    refine aw_sr (ow_k 3 10 (by kernel_rfl) ?_)
    cases hL : decide (((ow.map rowN).length : Int) ≤ 200) with
    | false =>
      refine ow_is (x := decide (((ow.map rowN).length : Int) ≤ 200)) (w := false) hL (by kernel_rfl) (by kernel_rfl) (by kernel_rfl) (by kernel_rfl) (by kernel_rfl) ?_
      refine ow_all 10 (by kernel_rfl) ?_
      refine aw_ret ?_
      exact ⟨.inr rfl, [BO false], by kernel_rfl, by kernel_rfl, ⟨false, by kernel_rfl, ⟨(fun h => by cases h), (fun h => absurd h.1 (by have := of_decide_eq_false hL; rw [List.length_map] at this; omega))⟩⟩, by kernel_rfl⟩
    | true =>
      refine ow_is (x := decide (((ow.map rowN).length : Int) ≤ 200)) (w := true) hL (by kernel_rfl) (by kernel_rfl) (by kernel_rfl) (by kernel_rfl) (by kernel_rfl) ?_
      obtain ⟨b1, h1, g1⟩ := within19 (H := H) ow z.own z.ownO 4294967295 (by omega) (strip_ok hz.own _ _)
      obtain ⟨b2, h2, g2⟩ := within19 (H := H) [ch.2.2.1] false .full 100 (by simp) rfl
      refine ow_k 3 10 (by kernel_rfl) ?_
      refine ow_callE0 (k := 19) (first := []) (captured := []) (xs := [I64 4294967295, .slice (ow.map rowN) z.own z.ownO]) (r := BO b1) (by simp only [List.map_cons, List.map_nil, strip_ok hz.own]; exact h1) (by kernel_rfl) (by kernel_rfl) (by kernel_rfl) (by kernel_rfl) (by kernel_rfl) (by kernel_rfl) (by kernel_rfl) (by kernel_rfl) ?_
      cases b1 with
      | false =>
        refine ow_all 10 (by kernel_rfl) ?_
        refine aw_ret ?_
        exact ⟨.inr rfl, [BO false], by kernel_rfl, by kernel_rfl, ⟨false, by kernel_rfl, ⟨(fun h => by cases h), (fun h => absurd h.2.1 (fun k => by have := g1.2 k; cases this))⟩⟩, by kernel_rfl⟩
      | true =>
        refine ow_k 6 10 (by kernel_rfl) ?_
        refine ow_callE0 (k := 19) (first := []) (captured := []) (xs := [I64 100, .slice ([ch.2.2.1].map rowN) false .full]) (r := BO b2) h2 (by kernel_rfl) (by kernel_rfl) (by kernel_rfl) (by kernel_rfl) (by kernel_rfl) (by kernel_rfl) (by kernel_rfl) (by kernel_rfl) ?_
        cases b2 with
        | false =>
          refine ow_all 10 (by kernel_rfl) ?_
          refine aw_ret ?_
          exact ⟨.inr rfl, [BO false], by kernel_rfl, by kernel_rfl, ⟨false, by kernel_rfl, ⟨(fun h => by cases h), (fun h => absurd h.2.2.1 (fun k => by have := g2.2 (by intro n hn; rw [List.mem_singleton] at hn; rw [hn]; exact k); cases this))⟩⟩, by kernel_rfl⟩
        | true =>
          refine ow_k 12 10 (by kernel_rfl) ?_
          refine ow_cmp (r := eqCu ch (((ow.map rowN).length : Int), ((ow[ow.length - 1]'(by omega)) : Int), ch.2.2.1, (0 : Int))) (cs := cellsCu ch) (es := cellsCu (((ow.map rowN).length : Int), ((ow[ow.length - 1]'(by omega)) : Int), ch.2.2.1, (0 : Int))) (fun ox oy => (cmpCu ch (((ow.map rowN).length : Int), ((ow[ow.length - 1]'(by omega)) : Int), ch.2.2.1, (0 : Int)) ox oy).2) (by kernel_rfl) (by kernel_rfl) (by kernel_rfl) (by kernel_rfl) ?_
          refine ow_all 10 (by kernel_rfl) ?_
          refine aw_ret ?_
          refine ⟨.inr rfl, [BO (eqCu ch (((ow.map rowN).length : Int), ((ow[ow.length - 1]'(by omega)) : Int), ch.2.2.1, (0 : Int)))], by kernel_rfl, by kernel_rfl, ⟨eqCu ch (((ow.map rowN).length : Int), ((ow[ow.length - 1]'(by omega)) : Int), ch.2.2.1, (0 : Int)), by kernel_rfl, ?_⟩, by kernel_rfl⟩
          have k3 := of_decide_eq_true hL
          rw [List.length_map] at k3
          have hl : ow.getLastD 0 = (ow[ow.length - 1]'(by omega)) := (by rw [List.getLastD_eq_getLast?, List.getLast?_eq_getElem?, List.getElem?_eq_getElem (by omega)]; rfl)
          rw [eqCu_iff]
          constructor
          · intro hce
            refine ⟨by omega, g1.1 rfl, g2.1 rfl ch.2.2.1 (by simp), ?_⟩
            rw [hl]
            exact hce
          · intro hc
            have := hc.2.2.2
            rw [hl] at this
            exact this
  · refine aw_sskip ?_
    refine aw_abs 45 H (cfg17.heap 21) [(1, .box 0 (cellsSt (a, tr, ar, ch, ow, sh, tu, pe, th, co, wa, ha) z)), (3, I64 0)] (by kernel_rfl) (fun t1 c1 al1 => ?_)
    refine aw_sr (ow_k 3 10 (by kernel_rfl) ?_)
    cases hL : decide (((ow.map rowN).length : Int) ≤ 200) with
    | false =>
      refine ow_is (x := decide (((ow.map rowN).length : Int) ≤ 200)) (w := false) hL (by kernel_rfl) (by kernel_rfl) (by kernel_rfl) (by kernel_rfl) (by kernel_rfl) ?_
      refine ow_all 10 (by kernel_rfl) ?_
      refine aw_ret ?_
      exact ⟨.inr rfl, [BO false], by kernel_rfl, by kernel_rfl, ⟨false, by kernel_rfl, ⟨(fun h => by cases h), (fun h => absurd h.1 (by have := of_decide_eq_false hL; rw [List.length_map] at this; omega))⟩⟩, by kernel_rfl⟩
    | true =>
      refine ow_is (x := decide (((ow.map rowN).length : Int) ≤ 200)) (w := true) hL (by kernel_rfl) (by kernel_rfl) (by kernel_rfl) (by kernel_rfl) (by kernel_rfl) ?_
      obtain ⟨b1, h1, g1⟩ := within19 (H := H) ow z.own z.ownO 4294967295 (by omega) (strip_ok hz.own _ _)
      obtain ⟨b2, h2, g2⟩ := within19 (H := H) [ch.2.2.1] false .full 100 (by simp) rfl
      refine ow_k 3 10 (by kernel_rfl) ?_
      refine ow_callE0 (k := 19) (first := []) (captured := []) (xs := [I64 4294967295, .slice (ow.map rowN) z.own z.ownO]) (r := BO b1) (by simp only [List.map_cons, List.map_nil, strip_ok hz.own]; exact h1) (by kernel_rfl) (by kernel_rfl) (by kernel_rfl) (by kernel_rfl) (by kernel_rfl) (by kernel_rfl) (by kernel_rfl) (by kernel_rfl) ?_
      cases b1 with
      | false =>
        refine ow_all 10 (by kernel_rfl) ?_
        refine aw_ret ?_
        exact ⟨.inr rfl, [BO false], by kernel_rfl, by kernel_rfl, ⟨false, by kernel_rfl, ⟨(fun h => by cases h), (fun h => absurd h.2.1 (fun k => by have := g1.2 k; cases this))⟩⟩, by kernel_rfl⟩
      | true =>
        refine ow_k 6 10 (by kernel_rfl) ?_
        refine ow_callE0 (k := 19) (first := []) (captured := []) (xs := [I64 100, .slice ([ch.2.2.1].map rowN) false .full]) (r := BO b2) h2 (by kernel_rfl) (by kernel_rfl) (by kernel_rfl) (by kernel_rfl) (by kernel_rfl) (by kernel_rfl) (by kernel_rfl) (by kernel_rfl) ?_
        cases b2 with
        | false =>
          refine ow_all 10 (by kernel_rfl) ?_
          refine aw_ret ?_
          exact ⟨.inr rfl, [BO false], by kernel_rfl, by kernel_rfl, ⟨false, by kernel_rfl, ⟨(fun h => by cases h), (fun h => absurd h.2.2.1 (fun k => by have := g2.2 (by intro n hn; rw [List.mem_singleton] at hn; rw [hn]; exact k); cases this))⟩⟩, by kernel_rfl⟩
        | true =>
          refine ow_k 12 10 (by kernel_rfl) ?_
          refine ow_cmp (r := eqCu ch (((ow.map rowN).length : Int), (0 : Int), ch.2.2.1, (0 : Int))) (cs := cellsCu ch) (es := cellsCu (((ow.map rowN).length : Int), (0 : Int), ch.2.2.1, (0 : Int))) (fun ox oy => (cmpCu ch (((ow.map rowN).length : Int), (0 : Int), ch.2.2.1, (0 : Int)) ox oy).2) (by kernel_rfl) (by kernel_rfl) (by kernel_rfl) (by kernel_rfl) ?_
          refine ow_all 10 (by kernel_rfl) ?_
          refine aw_ret ?_
          refine ⟨.inr rfl, [BO (eqCu ch (((ow.map rowN).length : Int), (0 : Int), ch.2.2.1, (0 : Int)))], by kernel_rfl, by kernel_rfl, ⟨eqCu ch (((ow.map rowN).length : Int), (0 : Int), ch.2.2.1, (0 : Int)), by kernel_rfl, ?_⟩, by kernel_rfl⟩
          have k3 := of_decide_eq_true hL
          rw [List.length_map] at k3
          have hl : ow.getLastD 0 = 0 := (by
          have h0 : ow = [] := List.eq_nil_of_length_eq_zero (by have := of_decide_eq_false h; rw [List.length_map] at this; omega)
          rw [h0]
          rfl)
          rw [eqCu_iff]
          constructor
          · intro hce
            refine ⟨by omega, g1.1 rfl, g2.1 rfl ch.2.2.1 (by simp), ?_⟩
            rw [hl]
            exact hce
          · intro hc
            have := hc.2.2.2
            rw [hl] at this
            exact this
end Go.Proofs.V
namespace Go.Proofs.V
open Go Go.Proofs Go.Proofs.V.Wire
set_option linter.unusedVariables false
set_option linter.unusedSimpArgs false
set_option maxRecDepth 100000
set_option maxHeartbeats 1000000
theorem okTree_c {l : List Fi} (h : okTree l) : (list 16 cFi).ok l :=
  ⟨by have := h.1; omega, by have := h.1; omega, fun x hx => ⟨⟨by have := (h.2 x hx).1; omega, by have := (h.2 x hx).1; omega⟩, ⟨by have := (h.2 x hx).2; omega, by have := (h.2 x hx).2; omega⟩⟩⟩
theorem num_ok {n most : Int} (h0 : 0 ≤ n) (h1 : n ≤ most) (h2 : n ≤ 4294967295) : (num most).ok n := ⟨h0, h1, h2⟩
theorem str_ok {s : BS} {most : Int} (h1 : (s.length : Int) ≤ most) (h2 : s.length ≤ 16384) : (str most).ok s := ⟨h1, h2⟩
theorem list_ok {α : Type} {c : Codec α} {most : Int} (l : List α) (h1 : (l.length : Int) ≤ most) (h2 : (l.length : Int) ≤ 4294967295) (h : ∀ x ∈ l, c.ok x) : (list most c).ok l := ⟨h1, h2, h⟩
theorem okArch_c {l : List En} (h : okArch l) : (list 32 cEn).ok l := by
  refine ⟨by have := h.1; omega, by have := h.1; omega, fun x hx => ?_⟩
  obtain ⟨h1, h2, h3, h4, h5, h6⟩ := h.2 x hx
  exact ⟨str_ok (by omega) (by omega), trivial, str_ok (by omega) (by omega), num_ok h3 (by unfold maxN; omega) (by omega), num_ok h5 (by unfold maxN; omega) (by omega)⟩
def S18 (l : List En) (nl : Bool) (o : Own) : Prop := callQ cfg17 (evK cfg17) 18 [.slice (l.map rowEn) nl o] = some (BO true)
def S20 (l : List Fi) (nl : Bool) (o : Own) : Prop := callQ cfg17 (evK cfg17) 20 [.slice (l.map rowFi) nl o] = some (BO true)
def S22 (l : List BS) (nl : Bool) (o : Own) : Prop := callQ cfg17 (evK cfg17) 22 [.slice (l.map rowS) nl o] = some (BO true)
theorem notT {r : Option AV} (h : r = some (BO false)) : ¬ r = some (BO true) := by
  rw [h]; intro k; cases k
theorem isT {r : Option AV} {b : Bool} (h : r = some (BO b)) (k : r = some (BO true)) : b = true := by
  rw [h] at k; cases k; rfl
def PWt (x : Pu) : Prop := 0 ≤ x.1 ∧ x.1 ≤ 4294967295 ∧ x.2.length ≤ 16
def PP (pe : Cu) : Prop := (0 ≤ pe.1 ∧ pe.1 ≤ 200) ∧ (0 ≤ pe.2.1 ∧ pe.2.1 ≤ 4294967295) ∧ (0 ≤ pe.2.2.2 ∧ pe.2.2.2 ≤ 4294967295) ∧ (0 ≤ pe.2.2.1 ∧ pe.2.2.1 ≤ 100)
theorem PP_ok {pe : Cu} (h : PP pe) : cCu.ok pe :=
  ⟨num_ok (n := pe.1) h.1.1 (by have := h.1.2; unfold maxN; omega) (by have := h.1.2; omega), num_ok (n := pe.2.1) h.2.1.1 (by have := h.2.1.2; unfold maxN; omega) (by have := h.2.1.2; omega), num_ok (n := pe.2.2.1) h.2.2.2.1 (by have := h.2.2.2.2; unfold maxN; omega) (by have := h.2.2.2.2; omega), num_ok (n := pe.2.2.2) h.2.2.1.1 (by have := h.2.2.1.2; unfold maxN; omega) (by have := h.2.2.1.2; omega)⟩
/-- When a state is right. -/
def RP (s : Stt) (z : Nl) : Prop := S18 s.2.2.1 z.arch z.archO ∧ S18 s.2.2.2.2.2.1 z.shown z.shownO ∧ S18 s.2.2.2.2.2.2.2.2.1 z.theirs z.theirsO ∧ (∀ x ∈ s.2.2.2.2.2.2.2.2.2.2.1, PWt x) ∧ PP s.2.2.2.2.2.2.2.1 ∧ (0 ≤ s.1 ∧ s.1 ≤ 1) ∧ S20 s.2.1 z.tree z.treeO ∧ chP s.2.2.2.2.1 s.2.2.2.1 ∧ S22 s.2.2.2.2.2.2.2.2.2.1 z.conf z.confO ∧ s.2.2.2.2.2.2.2.2.2.1.length ≤ 32 ∧ s.2.2.2.2.2.2.2.2.2.2.1.length ≤ 200
theorem RP_ok {s : Stt} {z : Nl} (hz : OkZ z) (hs : Short s) (hti : Tiny s) (h : RP s z) : cSt.ok s := by
  obtain ⟨a, tr, ar, ch, ow, sh, tu, pe, th, co, wa, ha⟩ := s
  obtain ⟨s1, s2, s3, s4, s5, s6, s7⟩ := hs
  obtain ⟨t1, t2, t3, t4, t5, t6⟩ := hti
  obtain ⟨r1, r2, r3, r4, r5, r6, r7, r8, r9, r10, r11⟩ := h
  dsimp only at s1 s2 s3 s4 s5 s6 s7 t1 t2 t3 t4 t5 t6 r1 r2 r3 r4 r5 r6 r7 r8 r9 r10 r11
  obtain ⟨q1, h1, g1⟩ := scan18 ar z.arch z.archO (by omega) (fun x hx => by have := (t2 x hx).1; omega) (strip_ok hz.arch _ _)
  obtain ⟨q2, h2, g2⟩ := scan18 sh z.shown z.shownO (by omega) (fun x hx => by have := (t3 x hx).1; omega) (strip_ok hz.shown _ _)
  obtain ⟨q3, h3, g3⟩ := scan18 th z.theirs z.theirsO (by omega) (fun x hx => by have := (t4 x hx).1; omega) (strip_ok hz.theirs _ _)
  obtain ⟨q4, h4, g4⟩ := tree20 tr z.tree z.treeO (fun x hx => by have := (t1 x hx).1; omega) (strip_ok hz.tree _ _)
  obtain ⟨q6, h6, g6⟩ := sorted22 co z.conf z.confO (by omega) (fun x hx => by have := t5 x hx; omega)
  have a1 := g1 (isT h1 r1)
  have a2 := g2 (isT h2 r2)
  have a3 := g3 (isT h3 r3)
  have m5 := chP_ok r8
  have m6 := g6 (isT h6 r9)
  refine ⟨num_ok r6.1 (by omega) (by omega), okTree_c (g4 (isT h4 r7)), okArch_c a1, m5.2.2, list_ok ow (by omega) (by omega) (fun n hn => num_ok (m5.2.1 n hn).1 (by have := (m5.2.1 n hn).2; unfold maxN; omega) (m5.2.1 n hn).2), okArch_c a2, trivial, PP_ok r5, okArch_c a3, list_ok co (by omega) (by omega) (fun x hx => str_ok (by have := m6 x hx; omega) (by have := m6 x hx; omega)), list_ok wa (by omega) (by omega) (fun x hx => ?_), trivial⟩
  have mw := r4 x hx
  exact ⟨num_ok mw.1 (by have := mw.2.1; unfold maxN; omega) mw.2.1, str_ok (by have := mw.2.2; omega) (by have := mw.2.2; omega)⟩
theorem right9 (s : Stt) (z : Nl) (hz : OkZ z) {H : List (List AV)} (hs : Short s) (hti : Tiny s) : ∃ b, evK cfg17 9 [.agg (cellsSt s z)] H = some (BO b, H) ∧ (b = true ↔ RP s z) := by
  obtain ⟨a, tr, ar, ch, ow, sh, tu, pe, th, co, wa, ha⟩ := s
  obtain ⟨s1, s2, s3, s4, s5, s6, s7⟩ := hs
  obtain ⟨t1, t2, t3, t4, t5, t6⟩ := hti
  dsimp only at s1 s2 s3 s4 s5 s6 s7 t1 t2 t3 t4 t5 t6
  suffices h : ∃ r H', evK cfg17 9 [.agg (cellsSt (a, tr, ar, ch, ow, sh, tu, pe, th, co, wa, ha) z)] H = some (r, H') ∧ (∃ b, r = BO b ∧ (b = true ↔ RP (a, tr, ar, ch, ow, sh, tu, pe, th, co, wa, ha) z)) ∧ H' = H by
    obtain ⟨r, H', h, ⟨b, rfl, hb⟩, rfl⟩ := h
    exact ⟨b, h, hb⟩
  obtain ⟨q1, h1, g1⟩ := scan18 ar z.arch z.archO (by omega) (fun x hx => by have := (t2 x hx).1; omega) (strip_ok hz.arch _ _)
  obtain ⟨q2, h2, g2⟩ := scan18 sh z.shown z.shownO (by omega) (fun x hx => by have := (t3 x hx).1; omega) (strip_ok hz.shown _ _)
  obtain ⟨q3, h3, g3⟩ := scan18 th z.theirs z.theirsO (by omega) (fun x hx => by have := (t4 x hx).1; omega) (strip_ok hz.theirs _ _)
  obtain ⟨q4, h4, g4⟩ := tree20 tr z.tree z.treeO (fun x hx => by have := (t1 x hx).1; omega) (strip_ok hz.tree _ _)
  obtain ⟨q5, h5, g5⟩ := chained21 (a, tr, ar, ch, ow, sh, tu, pe, th, co, wa, ha) z hz (H := H) s3
  obtain ⟨q6, h6, g6⟩ := sorted22 co z.conf z.confO (by omega) (fun x hx => by have := t5 x hx; omega)
  obtain ⟨q7, h7, g7⟩ := within19 (H := H) [a] false .full 1 (by simp) rfl
  dsimp only at g5
  refine evK_ofE (P := fun r H' => (∃ b, r = BO b ∧ (b = true ↔ RP (a, tr, ar, ch, ow, sh, tu, pe, th, co, wa, ha) z)) ∧ H' = H) Tryd.func9 rfl (of_decide_eq_true (by kernel_rfl)) (by kernel_rfl) (by kernel_rfl) rfl ?_
  unfold Tryd.f9
  dsimp only
  refine aw_sk 10 (by kernel_rfl) ?_
  refine aw_absE 95 H H (cfg17.heap 9) [(1, .box 0 (cellsSt (a, tr, ar, ch, ow, sh, tu, pe, th, co, wa, ha) z))] [(1, .box 0 ((cellsSt (a, tr, ar, ch, ow, sh, tu, pe, th, co, wa, ha) z).map strip1))] (by rw [strip1_st _ hz]) rfl (by kernel_rfl) (fun t9 c9 al9 => ?_)
  refine aw_assoc (aw_sk 10 (by kernel_rfl) ?_)
  refine aw_sfor 3 (fun i F => Is 95 H (cfg17.heap 9) [(1, .box 0 (cellsSt (a, tr, ar, ch, ow, sh, tu, pe, th, co, wa, ha) z)), (15, .agg [.slice (ar.map rowEn) z.arch z.archO, .slice (sh.map rowEn) z.shown z.shownO, .slice (th.map rowEn) z.theirs z.theirsO]), (16, I64 (i : Nat))] F ∧ (0 < i → S18 ar z.arch z.archO) ∧ (1 < i → S18 sh z.shown z.shownO) ∧ (2 < i → S18 th z.theirs z.theirsO)) ?_ ?_ ?_
  · exact ⟨is_at (l' := [(1, .box 0 (cellsSt (a, tr, ar, ch, ow, sh, tu, pe, th, co, wa, ha) z)), (15, .agg ([.slice (ar.map rowEn) z.arch z.archO, .slice (sh.map rowEn) z.shown z.shownO, .slice (th.map rowEn) z.theirs z.theirsO].map strip1)), (16, I64 (0 : Nat))]) (by simp only [List.map_cons, List.map_nil, strip1_ok hz.arch, strip1_ok hz.shown, strip1_ok hz.theirs]) (by kernel_rfl), fun h => by omega, fun h => by omega, fun h => by omega⟩
  · rintro i F hi ⟨⟨t, c, al, rfl⟩, p1, p2, p3⟩
    obtain rfl | rfl | rfl : i = 0 ∨ i = 1 ∨ i = 2 := by omega
    · refine aw_sk 10 (by kernel_rfl) ?_
      refine aw_sc true (by kernel_rfl) (fun _ => ?_) (fun h => by cases h)
      refine aw_sskip (aw_seq (aw_block (aw_sk 10 (by kernel_rfl) ?_)))
      refine aw_sr (ow_k 1 10 (by kernel_rfl) ?_)
      refine ow_callN (k := 18) (first := []) (captured := []) (xs := [.slice (ar.map rowEn) z.arch z.archO]) (r := BO q1) (by simp only [List.map_cons, List.map_nil, strip_ok hz.tree, strip_ok hz.arch, strip_ok hz.own, strip_ok hz.shown, strip_ok hz.theirs, strip_ok hz.conf, strip_ok hz.waits]; simp [nohp, rowEn, rowFi, rowS]) (by simp only [List.map_cons, List.map_nil, strip_ok hz.tree, strip_ok hz.arch, strip_ok hz.own, strip_ok hz.shown, strip_ok hz.theirs, strip_ok hz.conf, strip_ok hz.waits]; exact h1) (by kernel_rfl) (by kernel_rfl) (by kernel_rfl) (by kernel_rfl) (by kernel_rfl) (by kernel_rfl) (by kernel_rfl) ?_
      refine ow_all 10 (by kernel_rfl) ?_
      cases q1 with
      | false =>
        refine aw_cond (t := true) (by kernel_rfl) (fun _ => ?_) (fun h => by cases h)
        refine aw_sk 10 (by kernel_rfl) ?_
        refine aw_ret ?_
        exact ⟨.inr rfl, [BO false], by kernel_rfl, by kernel_rfl, ⟨false, by kernel_rfl, ⟨(fun h => by cases h), (fun h => absurd h.1 (notT h1))⟩⟩, by kernel_rfl⟩
      | true =>
        refine aw_cond (t := false) (by kernel_rfl) (fun h => by cases h) (fun _ => ?_)
        refine aw_skip ?_
        refine aw_rk 10 (by kernel_rfl) ?_
        exact ⟨is_at (l' := [(1, .box 0 (cellsSt (a, tr, ar, ch, ow, sh, tu, pe, th, co, wa, ha) z)), (15, .agg [.slice (ar.map rowEn) z.arch z.archO, .slice (sh.map rowEn) z.shown z.shownO, .slice (th.map rowEn) z.theirs z.theirsO]), (16, I64 (1 : Nat))]) rfl (by kernel_rfl), fun _ => h1, fun h => by omega, fun h => by omega⟩
    · refine aw_sk 10 (by kernel_rfl) ?_
      refine aw_sc true (by kernel_rfl) (fun _ => ?_) (fun h => by cases h)
      refine aw_sskip (aw_seq (aw_block (aw_sk 10 (by kernel_rfl) ?_)))
      refine aw_sr (ow_k 1 10 (by kernel_rfl) ?_)
      refine ow_callN (k := 18) (first := []) (captured := []) (xs := [.slice (sh.map rowEn) z.shown z.shownO]) (r := BO q2) (by simp only [List.map_cons, List.map_nil, strip_ok hz.tree, strip_ok hz.arch, strip_ok hz.own, strip_ok hz.shown, strip_ok hz.theirs, strip_ok hz.conf, strip_ok hz.waits]; simp [nohp, rowEn, rowFi, rowS]) (by simp only [List.map_cons, List.map_nil, strip_ok hz.tree, strip_ok hz.arch, strip_ok hz.own, strip_ok hz.shown, strip_ok hz.theirs, strip_ok hz.conf, strip_ok hz.waits]; exact h2) (by kernel_rfl) (by kernel_rfl) (by kernel_rfl) (by kernel_rfl) (by kernel_rfl) (by kernel_rfl) (by kernel_rfl) ?_
      refine ow_all 10 (by kernel_rfl) ?_
      cases q2 with
      | false =>
        refine aw_cond (t := true) (by kernel_rfl) (fun _ => ?_) (fun h => by cases h)
        refine aw_sk 10 (by kernel_rfl) ?_
        refine aw_ret ?_
        exact ⟨.inr rfl, [BO false], by kernel_rfl, by kernel_rfl, ⟨false, by kernel_rfl, ⟨(fun h => by cases h), (fun h => absurd h.2.1 (notT h2))⟩⟩, by kernel_rfl⟩
      | true =>
        refine aw_cond (t := false) (by kernel_rfl) (fun h => by cases h) (fun _ => ?_)
        refine aw_skip ?_
        refine aw_rk 10 (by kernel_rfl) ?_
        exact ⟨is_at (l' := [(1, .box 0 (cellsSt (a, tr, ar, ch, ow, sh, tu, pe, th, co, wa, ha) z)), (15, .agg [.slice (ar.map rowEn) z.arch z.archO, .slice (sh.map rowEn) z.shown z.shownO, .slice (th.map rowEn) z.theirs z.theirsO]), (16, I64 (2 : Nat))]) rfl (by kernel_rfl), fun _ => p1 (by omega), fun h => h2, fun h => by omega⟩
    · refine aw_sk 10 (by kernel_rfl) ?_
      refine aw_sc true (by kernel_rfl) (fun _ => ?_) (fun h => by cases h)
      refine aw_sskip (aw_seq (aw_block (aw_sk 10 (by kernel_rfl) ?_)))
      refine aw_sr (ow_k 1 10 (by kernel_rfl) ?_)
      refine ow_callN (k := 18) (first := []) (captured := []) (xs := [.slice (th.map rowEn) z.theirs z.theirsO]) (r := BO q3) (by simp only [List.map_cons, List.map_nil, strip_ok hz.tree, strip_ok hz.arch, strip_ok hz.own, strip_ok hz.shown, strip_ok hz.theirs, strip_ok hz.conf, strip_ok hz.waits]; simp [nohp, rowEn, rowFi, rowS]) (by simp only [List.map_cons, List.map_nil, strip_ok hz.tree, strip_ok hz.arch, strip_ok hz.own, strip_ok hz.shown, strip_ok hz.theirs, strip_ok hz.conf, strip_ok hz.waits]; exact h3) (by kernel_rfl) (by kernel_rfl) (by kernel_rfl) (by kernel_rfl) (by kernel_rfl) (by kernel_rfl) (by kernel_rfl) ?_
      refine ow_all 10 (by kernel_rfl) ?_
      cases q3 with
      | false =>
        refine aw_cond (t := true) (by kernel_rfl) (fun _ => ?_) (fun h => by cases h)
        refine aw_sk 10 (by kernel_rfl) ?_
        refine aw_ret ?_
        exact ⟨.inr rfl, [BO false], by kernel_rfl, by kernel_rfl, ⟨false, by kernel_rfl, ⟨(fun h => by cases h), (fun h => absurd h.2.2.1 (notT h3))⟩⟩, by kernel_rfl⟩
      | true =>
        refine aw_cond (t := false) (by kernel_rfl) (fun h => by cases h) (fun _ => ?_)
        refine aw_skip ?_
        refine aw_rk 10 (by kernel_rfl) ?_
        exact ⟨is_at (l' := [(1, .box 0 (cellsSt (a, tr, ar, ch, ow, sh, tu, pe, th, co, wa, ha) z)), (15, .agg [.slice (ar.map rowEn) z.arch z.archO, .slice (sh.map rowEn) z.shown z.shownO, .slice (th.map rowEn) z.theirs z.theirsO]), (16, I64 (3 : Nat))]) rfl (by kernel_rfl), fun _ => p1 (by omega), fun h => p2 (by omega), fun h => h3⟩
  · rintro F ⟨⟨t, c, al, rfl⟩, p1, p2, p3⟩
    have a1 := p1 (by omega)
    have a2 := p2 (by omega)
    have a3 := p3 (by omega)
    refine aw_sk 10 (by kernel_rfl) ?_
    refine aw_sc false (by kernel_rfl) (fun h => by cases h) (fun _ => ?_)
    refine aw_sexit ?_
    dsimp only [Then, InBlock, if_true]
    refine aw_assoc (aw_sk 10 (by kernel_rfl) ?_)
    refine aw_sfor wa.length (fun i F => Is 95 H (cfg17.heap 9) [(1, .box 0 (cellsSt (a, tr, ar, ch, ow, sh, tu, pe, th, co, wa, ha) z)), (24, .slice (wa.map rowPu) z.waits z.waitsO), (25, I64 (wa.map rowPu).length), (26, I64 (i : Nat))] F ∧ ∀ x ∈ wa.take i, PWt x) ?_ ?_ ?_
    · exact ⟨is_of (by kernel_rfl), by simp⟩
    · rintro i F hi ⟨⟨t, c, al, rfl⟩, hpre⟩
      obtain ⟨b, hb, gb⟩ := within19 (H := H) [wa[i].1] false .full 4294967295 (by simp) rfl
      refine aw_sk 10 (by kernel_rfl) ?_
      refine aw_sc (decide ((i : Int) < ((wa.map rowPu).length : Int))) (by kernel_rfl) (fun _ => ?_) (fun h => absurd (of_decide_eq_false h) (by rw [List.length_map]; omega))
      refine aw_sskip (aw_seq (aw_block (aw_sr ?_)))
      refine ow_at (rows := wa.map rowPu) (nl := z.waits) (own := z.waitsO) (row := rowPu wa[i]) (n := i) (e := 48) (row_at _ _ _ hi) (by omega) (by kernel_rfl) (by kernel_rfl) (by kernel_rfl) (by kernel_rfl) (by kernel_rfl) (by kernel_rfl) ?_
      refine ow_k 2 10 (by kernel_rfl) ?_
      refine ow_st 6 0 [I64 0, ST []] (.agg (rowPu wa[i])) (by kernel_rfl) (by kernel_rfl) (by kernel_rfl) (by kernel_rfl) (by kernel_rfl) (by kernel_rfl) (by kernel_rfl) ?_
      refine ow_nil ?_
      refine aw_absB 95 H (cfg17.heap 9) 6 (rowPu wa[i]) [(1, .box 0 (cellsSt (a, tr, ar, ch, ow, sh, tu, pe, th, co, wa, ha) z)), (24, .slice (wa.map rowPu) z.waits z.waitsO), (25, I64 (wa.map rowPu).length), (26, I64 (i : Nat))] (by kernel_rfl) (by kernel_rfl) (fun _ _ _ _ => ?_)
      refine aw_mid (IsB 95 H (cfg17.heap 9) 40 (fun v => v = false ↔ PWt wa[i]) [(1, .box 0 (cellsSt (a, tr, ar, ch, ow, sh, tu, pe, th, co, wa, ha) z)), (24, .slice (wa.map rowPu) z.waits z.waitsO), (25, I64 (wa.map rowPu).length), (26, I64 (i : Nat))]) ?_ ?_
      · refine ow_k 1 10 (by kernel_rfl) ?_
        refine ow_ld 6 0 (rowPu wa[i]) (I64 wa[i].1) (by kernel_rfl) (by kernel_rfl) (by kernel_rfl) (by kernel_rfl) (by kernel_rfl) (by kernel_rfl) ?_
        refine ow_k 1 10 (by kernel_rfl) ?_
        refine ow_callE0 (k := 19) (first := []) (captured := []) (xs := [I64 4294967295, .slice ([wa[i].1].map rowN) false .full]) (r := BO b) hb (by kernel_rfl) (by kernel_rfl) (by kernel_rfl) (by kernel_rfl) (by kernel_rfl) (by kernel_rfl) (by kernel_rfl) (by kernel_rfl) ?_
        cases b with
        | false =>
          refine ow_all 10 (by kernel_rfl) ?_
          refine isB_of true ⟨(fun h => by cases h), fun k => ?_⟩ (by kernel_rfl)
          have := gb.2 (by intro n hn; rw [List.mem_singleton] at hn; rw [hn]; exact ⟨k.1, k.2.1⟩)
          cases this
        | true =>
          refine ow_k 3 10 (by kernel_rfl) ?_
          refine ow_ld 6 1 (rowPu wa[i]) (ST wa[i].2) (by kernel_rfl) (by kernel_rfl) (by kernel_rfl) (by kernel_rfl) (by kernel_rfl) (by kernel_rfl) ?_
          refine ow_all 10 (by kernel_rfl) ?_
          refine isB_of (decide ((16 : Int) < (wa[i].2.length : Int))) ?_ (by kernel_rfl)
          have k1 := gb.1 rfl wa[i].1 (by simp)
          rw [decide_eq_false_iff_not]
          constructor
          · intro k2
            exact ⟨k1.1, k1.2, by omega⟩
          · intro k2
            have := k2.2.2
            omega
      · rintro F ⟨v, hv, t, c, al, rfl⟩
        refine aw_cond (t := v) (by kernel_rfl) (fun hvt => ?_) (fun h => ?_)
        · refine aw_sk 10 (by kernel_rfl) ?_
          refine aw_ret ?_
          exact ⟨.inr rfl, [BO false], by kernel_rfl, by kernel_rfl, ⟨false, by kernel_rfl, ⟨(fun h => by cases h), (fun h => absurd (h.2.2.2.1 wa[i] (List.getElem_mem hi)) (fun k => by have := hv.2 k; rw [hvt] at this; cases this))⟩⟩, by kernel_rfl⟩
        · refine aw_skip ?_
          refine aw_rk 10 (by kernel_rfl) ?_
          exact ⟨is_at (l' := [(1, .box 0 (cellsSt (a, tr, ar, ch, ow, sh, tu, pe, th, co, wa, ha) z)), (24, .slice (wa.map rowPu) z.waits z.waitsO), (25, I64 (wa.map rowPu).length), (26, I64 (IntKind.i64.wrap ((i : Int) + 1)))]) (by rw [succ64 (by omega)]) (by kernel_rfl), mem_take_next hi hpre (hv.1 h)⟩
    · rintro F ⟨⟨t, c, al, rfl⟩, hpre⟩
      rw [List.take_length] at hpre
      refine aw_sk 10 (by kernel_rfl) ?_
      refine aw_sc (decide ((wa.length : Int) < ((wa.map rowPu).length : Int))) (by kernel_rfl) (fun h => absurd (of_decide_eq_true h) (by rw [List.length_map]; omega)) (fun _ => ?_)
      refine aw_sexit ?_
      dsimp only [Then, InBlock, if_true]
      refine aw_sr (ow_k 3 10 (by kernel_rfl) ?_)
      refine ow_st 7 0 [I64 0, I64 0, I64 0, I64 0] (.agg (cellsCu pe)) (by kernel_rfl) (by kernel_rfl) (by kernel_rfl) (by kernel_rfl) (by kernel_rfl) (by kernel_rfl) (by kernel_rfl) ?_
      refine ow_nil ?_
      refine aw_absB 95 H (cfg17.heap 9) 7 (cellsCu pe) [(1, .box 0 (cellsSt (a, tr, ar, ch, ow, sh, tu, pe, th, co, wa, ha) z))] (by kernel_rfl) (by kernel_rfl) (fun _ _ _ _ => ?_)
      obtain ⟨e1, f1, k1⟩ := within19 (H := H) [pe.1] false .full 200 (by simp) rfl
      obtain ⟨e2, f2, k2⟩ := within19 (H := H) [pe.2.1, pe.2.2.2] false .full 4294967295 (by simp) rfl
      obtain ⟨e3, f3, k3⟩ := within19 (H := H) [pe.2.2.1] false .full 100 (by simp) rfl
      refine aw_mid (IsB 95 H (cfg17.heap 9) 8 (fun v => v = true ↔ PP pe) [(1, .box 0 (cellsSt (a, tr, ar, ch, ow, sh, tu, pe, th, co, wa, ha) z))]) ?_ ?_
      · refine ow_k 1 10 (by kernel_rfl) ?_
        refine ow_ld 7 0 (cellsCu pe) (I64 pe.1) (by kernel_rfl) (by kernel_rfl) (by kernel_rfl) (by kernel_rfl) (by kernel_rfl) (by kernel_rfl) ?_
        refine ow_k 1 10 (by kernel_rfl) ?_
        refine ow_callE0 (k := 19) (first := []) (captured := []) (xs := [I64 200, .slice ([pe.1].map rowN) false .full]) (r := BO e1) f1 (by kernel_rfl) (by kernel_rfl) (by kernel_rfl) (by kernel_rfl) (by kernel_rfl) (by kernel_rfl) (by kernel_rfl) (by kernel_rfl) ?_
        cases e1 with
        | false =>
          refine ow_all 10 (by kernel_rfl) ?_
          exact isB_of false ⟨(fun h => by cases h), (fun h => absurd h.1 (fun m => by have := k1.2 (by intro n hn; rw [List.mem_singleton] at hn; rw [hn]; exact m); cases this))⟩ (by kernel_rfl)
        | true =>
          refine ow_k 2 10 (by kernel_rfl) ?_
          refine ow_ld 7 1 (cellsCu pe) (I64 pe.2.1) (by kernel_rfl) (by kernel_rfl) (by kernel_rfl) (by kernel_rfl) (by kernel_rfl) (by kernel_rfl) ?_
          refine ow_k 1 10 (by kernel_rfl) ?_
          refine ow_ld 7 3 (cellsCu pe) (I64 pe.2.2.2) (by kernel_rfl) (by kernel_rfl) (by kernel_rfl) (by kernel_rfl) (by kernel_rfl) (by kernel_rfl) ?_
          refine ow_k 1 10 (by kernel_rfl) ?_
          refine ow_callE0 (k := 19) (first := []) (captured := []) (xs := [I64 4294967295, .slice ([pe.2.1, pe.2.2.2].map rowN) false .full]) (r := BO e2) f2 (by kernel_rfl) (by kernel_rfl) (by kernel_rfl) (by kernel_rfl) (by kernel_rfl) (by kernel_rfl) (by kernel_rfl) (by kernel_rfl) ?_
          cases e2 with
          | false =>
            refine ow_all 10 (by kernel_rfl) ?_
            exact isB_of false ⟨(fun h => by cases h), (fun h => absurd (And.intro h.2.1 h.2.2.1) (fun m => by have := k2.2 (by intro n hn; rcases List.mem_cons.1 hn with rfl | hn; exact m.1; rw [List.mem_singleton] at hn; rw [hn]; exact m.2); cases this))⟩ (by kernel_rfl)
          | true =>
            refine ow_k 3 10 (by kernel_rfl) ?_
            refine ow_ld 7 2 (cellsCu pe) (I64 pe.2.2.1) (by kernel_rfl) (by kernel_rfl) (by kernel_rfl) (by kernel_rfl) (by kernel_rfl) (by kernel_rfl) ?_
            refine ow_k 1 10 (by kernel_rfl) ?_
            refine ow_callE0 (k := 19) (first := []) (captured := []) (xs := [I64 100, .slice ([pe.2.2.1].map rowN) false .full]) (r := BO e3) f3 (by kernel_rfl) (by kernel_rfl) (by kernel_rfl) (by kernel_rfl) (by kernel_rfl) (by kernel_rfl) (by kernel_rfl) (by kernel_rfl) ?_
            cases e3 with
            | false =>
              refine ow_all 10 (by kernel_rfl) ?_
              exact isB_of false ⟨(fun h => by cases h), (fun h => absurd h.2.2.2 (fun m => by have := k3.2 (by intro n hn; rw [List.mem_singleton] at hn; rw [hn]; exact m); cases this))⟩ (by kernel_rfl)
            | true =>
              refine ow_all 10 (by kernel_rfl) ?_
              refine isB_of true ⟨fun _ => ?_, fun _ => rfl⟩ (by kernel_rfl)
              exact ⟨k1.1 rfl pe.1 (by simp), k2.1 rfl pe.2.1 (by simp), k2.1 rfl pe.2.2.2 (by simp), k3.1 rfl pe.2.2.1 (by simp)⟩
      · rintro F ⟨v, hv, t, c, al, rfl⟩
        refine aw_mid (IsB 95 H (cfg17.heap 9) 2 (fun b => b = true ↔ RP (a, tr, ar, ch, ow, sh, tu, pe, th, co, wa, ha) z) []) ?_ ?_
        · refine ow_k 2 10 (by kernel_rfl) ?_
          refine ow_k 1 10 (by kernel_rfl) ?_
          refine ow_callE0 (k := 19) (first := []) (captured := []) (xs := [I64 1, .slice ([a].map rowN) false .full]) (r := BO q7) h7 (by kernel_rfl) (by kernel_rfl) (by kernel_rfl) (by kernel_rfl) (by kernel_rfl) (by kernel_rfl) (by kernel_rfl) (by kernel_rfl) ?_
          cases q7 with
          | false =>
            refine ow_all 10 (by kernel_rfl) ?_
            exact isB_of false ⟨(fun h => by cases h), (fun h => absurd h.2.2.2.2.2.1 (fun m => by have := g7.2 (by intro n hn; rw [List.mem_singleton] at hn; rw [hn]; exact m); cases this))⟩ (by kernel_rfl)
          | true =>
            refine ow_k 3 10 (by kernel_rfl) ?_
            refine ow_callN (k := 20) (first := []) (captured := []) (xs := [.slice (tr.map rowFi) z.tree z.treeO]) (r := BO q4) (by simp only [List.map_cons, List.map_nil, strip_ok hz.tree, strip_ok hz.arch, strip_ok hz.own, strip_ok hz.shown, strip_ok hz.theirs, strip_ok hz.conf, strip_ok hz.waits]; simp [nohp, rowEn, rowFi, rowS]) (by simp only [List.map_cons, List.map_nil, strip_ok hz.tree, strip_ok hz.arch, strip_ok hz.own, strip_ok hz.shown, strip_ok hz.theirs, strip_ok hz.conf, strip_ok hz.waits]; exact h4) (by kernel_rfl) (by kernel_rfl) (by kernel_rfl) (by kernel_rfl) (by kernel_rfl) (by kernel_rfl) (by kernel_rfl) ?_
            cases q4 with
            | false =>
              refine ow_all 10 (by kernel_rfl) ?_
              exact isB_of false ⟨(fun h => by cases h), (fun h => absurd h.2.2.2.2.2.2.1 (notT h4))⟩ (by kernel_rfl)
            | true =>
              refine ow_abs 95 H (cfg17.heap 9) [(1, .box 0 (cellsSt (a, tr, ar, ch, ow, sh, tu, pe, th, co, wa, ha) z)), (8, BO v), (66, BO true), (69, BO true)] (by kernel_rfl) (fun _ _ _ => ?_)
              refine ow_k 3 10 (by kernel_rfl) ?_
              refine ow_callE0 (k := 21) (first := []) (captured := []) (xs := [.agg (cellsSt (a, tr, ar, ch, ow, sh, tu, pe, th, co, wa, ha) z)]) (r := BO q5) (by simp only [List.map_cons, List.map_nil, strip_st _ hz]; exact h5) (by kernel_rfl) (by kernel_rfl) (by kernel_rfl) (by kernel_rfl) (by kernel_rfl) (by kernel_rfl) (by kernel_rfl) (by kernel_rfl) ?_
              cases q5 with
              | false =>
                refine ow_all 10 (by kernel_rfl) ?_
                exact isB_of false ⟨(fun h => by cases h), (fun h => absurd h.2.2.2.2.2.2.2.1 (fun m => by have := g5.2 m; cases this))⟩ (by kernel_rfl)
              | true =>
                refine ow_abs 95 H (cfg17.heap 9) [(1, .box 0 (cellsSt (a, tr, ar, ch, ow, sh, tu, pe, th, co, wa, ha) z)), (8, BO v), (71, BO true), (73, BO true)] (by kernel_rfl) (fun _ _ _ => ?_)
                cases v with
                | false =>
                  refine ow_all 10 (by kernel_rfl) ?_
                  exact isB_of false ⟨(fun h => by cases h), (fun h => absurd h.2.2.2.2.1 (fun m => by have := hv.2 m; cases this))⟩ (by kernel_rfl)
                | true =>
                  refine ow_k 7 10 (by kernel_rfl) ?_
                  refine ow_callN (k := 22) (first := []) (captured := []) (xs := [.slice (co.map rowS) z.conf z.confO]) (r := BO q6) (by simp only [List.map_cons, List.map_nil, strip_ok hz.tree, strip_ok hz.arch, strip_ok hz.own, strip_ok hz.shown, strip_ok hz.theirs, strip_ok hz.conf, strip_ok hz.waits]; simp [nohp, rowEn, rowFi, rowS]) (by simp only [List.map_cons, List.map_nil, strip_ok hz.tree, strip_ok hz.arch, strip_ok hz.own, strip_ok hz.shown, strip_ok hz.theirs, strip_ok hz.conf, strip_ok hz.waits]; exact h6) (by kernel_rfl) (by kernel_rfl) (by kernel_rfl) (by kernel_rfl) (by kernel_rfl) (by kernel_rfl) (by kernel_rfl) ?_
                  cases q6 with
                  | false =>
                    refine ow_all 10 (by kernel_rfl) ?_
                    exact isB_of false ⟨(fun h => by cases h), (fun h => absurd h.2.2.2.2.2.2.2.2.1 (notT h6))⟩ (by kernel_rfl)
                  | true =>
                    refine ow_abs 95 H (cfg17.heap 9) [(1, .box 0 (cellsSt (a, tr, ar, ch, ow, sh, tu, pe, th, co, wa, ha) z)), (78, BO true), (81, BO true)] (by kernel_rfl) (fun _ _ _ => ?_)
                    refine ow_k 5 10 (by kernel_rfl) ?_
                    cases hC : decide (((co.map rowS).length : Int) ≤ 32) with
                    | false =>
                      refine ow_is (x := decide (((co.map rowS).length : Int) ≤ 32)) (w := false) hC (by kernel_rfl) (by kernel_rfl) (by kernel_rfl) (by kernel_rfl) (by kernel_rfl) ?_
                      refine ow_all 10 (by kernel_rfl) ?_
                      exact isB_of false ⟨(fun h => by cases h), (fun h => absurd (show co.length ≤ 32 from h.2.2.2.2.2.2.2.2.2.1) (by have := of_decide_eq_false hC; rw [List.length_map] at this; omega))⟩ (by kernel_rfl)
                    | true =>
                      refine ow_is (x := decide (((co.map rowS).length : Int) ≤ 32)) (w := true) hC (by kernel_rfl) (by kernel_rfl) (by kernel_rfl) (by kernel_rfl) (by kernel_rfl) ?_
                      refine ow_all 10 (by kernel_rfl) ?_
                      refine isB_of (decide (((wa.map rowPu).length : Int) ≤ 200)) ?_ (by kernel_rfl)
                      have c1 := of_decide_eq_true hC
                      rw [List.length_map] at c1
                      rw [decide_eq_true_iff, List.length_map]
                      constructor
                      · intro w1
                        exact ⟨a1, a2, a3, hpre, hv.1 rfl, g7.1 rfl a (by simp), h4, g5.1 rfl, h6, (show co.length ≤ 32 by omega), (show wa.length ≤ 200 by omega)⟩
                      · intro k
                        have : wa.length ≤ 200 := k.2.2.2.2.2.2.2.2.2.2
                        omega
        · rintro F ⟨b, hb, t, c, al, rfl⟩
          refine aw_ret ?_
          exact ⟨.inr rfl, [BO b], by kernel_rfl, by kernel_rfl, ⟨b, by kernel_rfl, hb⟩, by kernel_rfl⟩
end Go.Proofs.V
namespace Go.Proofs.V
open Go Go.Proofs Go.Proofs.V.Wire
set_option linter.unusedVariables false
set_option linter.unusedSimpArgs false
set_option maxRecDepth 100000
set_option maxHeartbeats 1000000
theorem widen {α : Type} {most : Int} {c d : Codec α} {l : List α} (h : (list most c).ok l) (hcd : ∀ x, c.ok x → d.ok x) : (list maxN d).ok l := ⟨h.2.1, h.2.1, fun x hx => hcd x (h.2.2 x hx)⟩
theorem cSt_w {s : Stt} (h : cSt.ok s) : wSt.ok s := by
  obtain ⟨h1, h2, h3, h4, h5, h6, h7, h8, h9, h10, h11, h12⟩ := h
  have hs : ∀ (m : Int) (x : BS), (str m).ok x → (str 16384).ok x := fun m x hx => ⟨by have := hx.2; omega, hx.2⟩
  have hfi : ∀ x, cFi.ok x → wFi.ok x := fun x hx => ⟨hs _ _ hx.1, hs _ _ hx.2⟩
  have hen : ∀ x, cEn.ok x → wEn.ok x := fun x hx => ⟨hs _ _ hx.1, trivial, hs _ _ hx.2.2.1, hx.2.2.2⟩
  have hpu : ∀ x, cPu.ok x → wPu.ok x := fun x hx => ⟨hx.1, hs _ _ hx.2⟩
  exact ⟨⟨h1.1, h1.2.2, h1.2.2⟩, widen h2 hfi, widen h3 hen, h4, widen h5 (fun x hx => hx), widen h6 hen, h7, h8, widen h9 hen, widen h10 (hs 52), widen h11 hpu, h12⟩
theorem encSt_inj {s t : Stt} (hs : cSt.ok s) (ht : cSt.ok t) (h : encSt s = encSt t) : s = t := cSt.inj hs ht h
theorem apart4 (s t : Stt) (z y : Nl) (hz : OkZ z) (hy : OkZ y) : evK cfg17 4 [.agg (cellsSt s z), .agg (cellsSt t y)] [] = some (BO true, []) := by
  obtain ⟨b1, f1, g1⟩ := few8 s z hz
  obtain ⟨b2, f2, g2⟩ := few8 t y hy
  have hsm : callQ cfg17 (evK cfg17) 7 [] = some (BO true) := callQ_at 300 small17
  refine evK_of Tryd.func4 rfl (of_decide_eq_true (by kernel_rfl)) (by kernel_rfl) (by kernel_rfl) rfl ?_
  unfold Tryd.f4
  dsimp only
  refine aw_sk 10 (by kernel_rfl) ?_
  refine aw_absE 42 [] [] (cfg17.heap 4) [(2, .box 0 (cellsSt s z)), (3, .box 64 (cellsSt t y))] [(2, .box 0 ((cellsSt s z).map strip1)), (3, .box 64 ((cellsSt t y).map strip1))] (by rw [strip1_st _ hz, strip1_st _ hy]) rfl (by kernel_rfl) (fun t9 c9 al9 => ?_)
  refine aw_sr ?_
  refine ow_callG (k := 7) (first := []) (captured := []) (xs := []) (r := BO true) (by kernel_rfl) (by kernel_rfl) (by kernel_rfl) (by kernel_rfl) (by kernel_rfl) (by kernel_rfl) hsm (by kernel_rfl) (by kernel_rfl) ?_
  refine ow_all 10 (by kernel_rfl) ?_
  refine aw_sr (ow_k 1 10 (by kernel_rfl) ?_)
  refine ow_callG (k := 8) (first := []) (captured := []) (xs := [.agg (cellsSt s z)]) (r := BO b1) (by kernel_rfl) (by kernel_rfl) (by kernel_rfl) (by kernel_rfl) (by kernel_rfl) (by kernel_rfl) (by simp only [List.map_cons, List.map_nil, strip_st _ hz, strip_st _ hy]; exact f1) (by kernel_rfl) (by kernel_rfl) ?_
  refine ow_all 10 (by kernel_rfl) ?_
  refine aw_sr (ow_k 1 10 (by kernel_rfl) ?_)
  refine ow_callG (k := 8) (first := []) (captured := []) (xs := [.agg (cellsSt t y)]) (r := BO b2) (by kernel_rfl) (by kernel_rfl) (by kernel_rfl) (by kernel_rfl) (by kernel_rfl) (by kernel_rfl) (by simp only [List.map_cons, List.map_nil, strip_st _ hz, strip_st _ hy]; exact f2) (by kernel_rfl) (by kernel_rfl) ?_
  refine ow_all 10 (by kernel_rfl) ?_
  refine aw_abs 42 [] (cfg17.heap 4) [(2, .box 0 (cellsSt s z)), (3, .box 64 (cellsSt t y)), (5, BO true), (6, BO b1), (7, BO b2)] (by kernel_rfl) (fun t0 c0 al0 => ?_)
  refine aw_assoc (aw_mid (IsB 42 [] (cfg17.heap 4) 28 (fun v => v = false → Short s ∧ Short t ∧ cSt.ok s ∧ cSt.ok t) [(2, .box 0 (cellsSt s z)), (3, .box 64 (cellsSt t y)), (5, BO true)]) ?_ ?_)
  · cases b1 with
    | false =>
      refine ow_all 10 (by kernel_rfl) ?_
      exact isB_of true (fun h => by cases h) (by kernel_rfl)
    | true =>
      cases b2 with
      | false =>
        refine ow_all 10 (by kernel_rfl) ?_
        exact isB_of true (fun h => by cases h) (by kernel_rfl)
      | true =>
        obtain ⟨r1, q1, k1⟩ := right9 s z hz (H := []) (g1 rfl).1 (g1 rfl).2
        obtain ⟨r2, q2, k2⟩ := right9 t y hy (H := []) (g2 rfl).1 (g2 rfl).2
        refine ow_k 8 10 (by kernel_rfl) ?_
        refine ow_callE0 (k := 9) (first := []) (captured := []) (xs := [.agg (cellsSt s z)]) (r := BO r1) (by simp only [List.map_cons, List.map_nil, strip_st _ hz, strip_st _ hy]; exact q1) (by kernel_rfl) (by kernel_rfl) (by kernel_rfl) (by kernel_rfl) (by kernel_rfl) (by kernel_rfl) (by kernel_rfl) (by kernel_rfl) ?_
        cases r1 with
        | false =>
          refine ow_all 10 (by kernel_rfl) ?_
          exact isB_of true (fun h => by cases h) (by kernel_rfl)
        | true =>
          refine ow_k 4 10 (by kernel_rfl) ?_
          refine ow_callE0 (k := 9) (first := []) (captured := []) (xs := [.agg (cellsSt t y)]) (r := BO r2) (by simp only [List.map_cons, List.map_nil, strip_st _ hz, strip_st _ hy]; exact q2) (by kernel_rfl) (by kernel_rfl) (by kernel_rfl) (by kernel_rfl) (by kernel_rfl) (by kernel_rfl) (by kernel_rfl) (by kernel_rfl) ?_
          cases r2 with
          | false =>
            refine ow_all 10 (by kernel_rfl) ?_
            exact isB_of true (fun h => by cases h) (by kernel_rfl)
          | true =>
            refine ow_all 10 (by kernel_rfl) ?_
            exact isB_of false (fun _ => ⟨(g1 rfl).1, (g2 rfl).1, RP_ok hz (g1 rfl).1 (g1 rfl).2 (k1.1 rfl), RP_ok hy (g2 rfl).1 (g2 rfl).2 (k2.1 rfl)⟩) (by kernel_rfl)
  · rintro F ⟨v, hv, t1, c1, al1, rfl⟩
    refine aw_sc v (by kernel_rfl) (fun _ => ?_) (fun h => ?_)
    · refine aw_assoc (aw_sk 10 (by kernel_rfl) ?_)
      refine aw_sret ?_
      exact ⟨.inr rfl, [BO true], by kernel_rfl, by kernel_rfl, by kernel_rfl, by kernel_rfl⟩
    · obtain ⟨hs, ht, os, ot⟩ := hv h
      refine aw_sskip (aw_sr (ow_k 3 10 (by kernel_rfl) ?_))
      refine ow_callDE (k := 11) (first := []) (captured := []) (xs := [.agg (cellsSt s z)]) (r := ST (encSt s)) (v := ST (encSt s)) (by simp only [List.map_cons, List.map_nil, strip_st _ hz, strip_st _ hy]; exact (bytes11 s z hs hz)) (by rfl) (by kernel_rfl) (by kernel_rfl) (by kernel_rfl) (by kernel_rfl) (by kernel_rfl) (by kernel_rfl) (by kernel_rfl) ?_
      refine ow_k 1 10 (by kernel_rfl) ?_
      refine ow_callDE (k := 11) (first := []) (captured := []) (xs := [.agg (cellsSt t y)]) (r := ST (encSt t)) (v := ST (encSt t)) (by simp only [List.map_cons, List.map_nil, strip_st _ hz, strip_st _ hy]; exact (bytes11 t y ht hy)) (by rfl) (by kernel_rfl) (by kernel_rfl) (by kernel_rfl) (by kernel_rfl) (by kernel_rfl) (by kernel_rfl) (by kernel_rfl) ?_
      have he : ∀ w : Bool, (w = true ↔ s = t) → ((⟨⟨encSt s⟩⟩ : ByteArray).toList == (⟨⟨encSt t⟩⟩ : ByteArray).toList) = w := by
        intro w hw
        rw [← beq_toListBytes, beqS]
        by_cases e : s = t
        · rw [hw.2 e, decide_eq_true (by rw [e])]
        · rw [show w = false by cases w; rfl; exact absurd (hw.1 rfl) e, decide_eq_false (fun h => e (encSt_inj os ot h))]
      obtain ⟨w, hw⟩ : ∃ w : Bool, (w = true ↔ s = t) := by
        rcases Classical.em (s = t) with e | e
        · exact ⟨true, by simp [e]⟩
        · exact ⟨false, by simp [e]⟩
      refine ow_is (x := ((⟨⟨encSt s⟩⟩ : ByteArray).toList == (⟨⟨encSt t⟩⟩ : ByteArray).toList)) (w := w) (he w hw) (by kernel_rfl) (by kernel_rfl) (by kernel_rfl) (by kernel_rfl) (by kernel_rfl) ?_
      refine ow_k 2 10 (by kernel_rfl) ?_
      refine ow_callDE (k := 12) (first := []) (captured := []) (xs := [.agg (cellsSt s z), .agg (cellsSt t y)]) (r := BO w) (v := BO w) (by simp only [List.map_cons, List.map_nil, strip_st _ hz, strip_st _ hy]; exact (same12 s t z y hs hz hy w hw)) (by rfl) (by kernel_rfl) (by kernel_rfl) (by kernel_rfl) (by kernel_rfl) (by kernel_rfl) (by kernel_rfl) (by kernel_rfl) ?_
      refine ow_is (x := (w == w)) (w := true) (by simp) (by kernel_rfl) (by kernel_rfl) (by kernel_rfl) (by kernel_rfl) (by kernel_rfl) ?_
      refine ow_all 10 (by kernel_rfl) ?_
      refine aw_ret ?_
      exact ⟨.inr rfl, [BO true], by kernel_rfl, by kernel_rfl, by kernel_rfl, by kernel_rfl⟩
end Go.Proofs.V
