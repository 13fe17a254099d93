/- Is a state small enough: Few. -/
import Derived.Test.YtdgihbbekacgcaaDoorT7
import Derived.Test.YtdgihbbekacgcaaDoorV26
namespace Go.Proofs.V
open Go Go.Proofs Go.Proofs.V.Wire
set_option linter.unusedVariables false
set_option linter.unusedSimpArgs false
set_option maxRecDepth 100000
set_option maxHeartbeats 1000000
theorem mem_take_next {α : Type} {l : List α} {i : Nat} {p : α → Prop} (hi : i < l.length) (h : ∀ x ∈ l.take i, p x) (h1 : p l[i]) : ∀ x ∈ l.take (i + 1), p x := by
  intro x hx
  rw [List.take_succ_eq_append_getElem hi] at hx
  rcases List.mem_append.1 hx with hx | hx
  · exact h x hx
  · simp only [List.mem_singleton] at hx
    rw [hx]
    exact h1
/-- Its strings are short. -/
def Tiny (s : Stt) : Prop := (∀ x ∈ s.2.1, x.1.length ≤ 1000 ∧ x.2.length ≤ 1000) ∧ (∀ x ∈ s.2.2.1, x.1.length ≤ 1000 ∧ x.2.2.1.length ≤ 1000) ∧ (∀ x ∈ s.2.2.2.2.2.1, x.1.length ≤ 1000 ∧ x.2.2.1.length ≤ 1000) ∧ (∀ x ∈ s.2.2.2.2.2.2.2.2.1, x.1.length ≤ 1000 ∧ x.2.2.1.length ≤ 1000) ∧ (∀ x ∈ s.2.2.2.2.2.2.2.2.2.1, x.length ≤ 1000) ∧ ∀ x ∈ s.2.2.2.2.2.2.2.2.2.2.1, x.2.length ≤ 1000
theorem few16 (l : List Fi) (nl : Bool) (o : Own) : ∃ b, callQ cfg17 (evK cfg17) 16 [.slice (l.map rowFi) nl o] = some (BO b) ∧ (b = true → l.length ≤ 40 ∧ ∀ x ∈ l, x.1.length ≤ 1000 ∧ x.2.length ≤ 1000) := by
  suffices h : ∃ r H', evK cfg17 16 [.slice (l.map rowFi) nl o] [] = some (r, H') ∧ (∃ b, r = BO b ∧ (b = true → l.length ≤ 40 ∧ ∀ x ∈ l, x.1.length ≤ 1000 ∧ x.2.length ≤ 1000)) ∧ H' = [] by
    obtain ⟨r, H', h, ⟨b, rfl, hb⟩, rfl⟩ := h
    exact ⟨b, callQ_of (by kernel_rfl) h, hb⟩
  refine evK_ofE (P := fun r H' => (∃ b, r = BO b ∧ (b = true → l.length ≤ 40 ∧ ∀ x ∈ l, x.1.length ≤ 1000 ∧ x.2.length ≤ 1000)) ∧ H' = []) Tryd.func16 rfl (of_decide_eq_true (by kernel_rfl)) (by kernel_rfl) (by kernel_rfl) rfl ?_
  unfold Tryd.f16
  dsimp only
  refine aw_sk 10 (by kernel_rfl) ?_
  refine aw_assoc (aw_sk 10 (by kernel_rfl) ?_)
  refine aw_sc (decide ((40 : Int) < ((l.map rowFi).length : Int))) (by kernel_rfl) (fun h => ?_) (fun h => ?_)
  · refine aw_assoc (aw_sk 10 (by kernel_rfl) ?_)
    refine aw_sret ?_
    exact ⟨.inr rfl, [BO false], by kernel_rfl, by kernel_rfl, ⟨false, by kernel_rfl, fun h => by cases h⟩, by kernel_rfl⟩
  have hl : l.length ≤ 40 := by
    have := of_decide_eq_false h
    rw [List.length_map] at this
    omega
  refine aw_sskip (aw_assoc (aw_sk 10 (by kernel_rfl) ?_))
  refine aw_sfor l.length (fun i F => Is 29 [] (cfg17.heap 16) [(0, .slice (l.map rowFi) nl o), (3, I64 (i : Nat))] F ∧ ∀ x ∈ l.take i, x.1.length ≤ 1000 ∧ x.2.length ≤ 1000) ?_ ?_ ?_
  · exact ⟨is_of (by kernel_rfl), by simp⟩
  · rintro i F hi ⟨⟨t, c, al, rfl⟩, hpre⟩
    refine aw_assoc (aw_sk 10 (by kernel_rfl) ?_)
    refine aw_sc (decide ((i : Int) < ((l.map rowFi).length : Int))) (by kernel_rfl) (fun _ => ?_) (fun h => absurd (of_decide_eq_false h) (by rw [List.length_map]; omega))
    refine aw_sskip (aw_seq (aw_block (aw_sr (ow_k 2 10 (by kernel_rfl) ?_))))
    refine ow_at (rows := l.map rowFi) (nl := nl) (own := o) (row := rowFi l[i]) (n := i) (e := 57) (row_at _ _ _ hi) (by omega) (by kernel_rfl) (by kernel_rfl) (by kernel_rfl) (by kernel_rfl) (by kernel_rfl) (by kernel_rfl) ?_
    refine ow_k 3 10 (by kernel_rfl) ?_
    cases h1 : decide ((100 : Int) < (l[i].1.length : Int)) with
    | true =>
      refine ow_is (x := decide ((100 : Int) < (l[i].1.length : Int))) (w := true) h1 (by kernel_rfl) (by kernel_rfl) (by kernel_rfl) (by kernel_rfl) (by kernel_rfl) ?_
      refine ow_all 10 (by kernel_rfl) ?_
      refine aw_cond (t := true) (by kernel_rfl) (fun _ => ?_) (fun h => by cases h)
      refine aw_sk 10 (by kernel_rfl) ?_
      refine aw_ret ?_
      exact ⟨.inr rfl, [BO false], by kernel_rfl, by kernel_rfl, ⟨false, by kernel_rfl, fun h => by cases h⟩, by kernel_rfl⟩
    | false =>
      refine ow_is (x := decide ((100 : Int) < (l[i].1.length : Int))) (w := false) h1 (by kernel_rfl) (by kernel_rfl) (by kernel_rfl) (by kernel_rfl) (by kernel_rfl) ?_
      refine ow_k 3 10 (by kernel_rfl) ?_
      refine ow_at (rows := l.map rowFi) (nl := nl) (own := o) (row := rowFi l[i]) (n := i) (e := 57) (row_at _ _ _ hi) (by omega) (by kernel_rfl) (by kernel_rfl) (by kernel_rfl) (by kernel_rfl) (by kernel_rfl) (by kernel_rfl) ?_
      refine ow_all 10 (by kernel_rfl) ?_
      refine aw_cond (t := decide ((1000 : Int) < (l[i].2.length : Int))) (by kernel_rfl) (fun _ => ?_) (fun h2 => ?_)
      · refine aw_sk 10 (by kernel_rfl) ?_
        refine aw_ret ?_
        exact ⟨.inr rfl, [BO false], by kernel_rfl, by kernel_rfl, ⟨false, by kernel_rfl, fun h => by cases h⟩, by kernel_rfl⟩
      · refine aw_skip ?_
        refine aw_rk 10 (by kernel_rfl) ?_
        refine ⟨is_at (l' := [(0, .slice (l.map rowFi) nl o), (3, I64 (IntKind.i64.wrap ((i : Int) + 1)))]) (by rw [succ64 (by omega)]) (by kernel_rfl), mem_take_next hi hpre ?_⟩
        have q1 := of_decide_eq_false h1
        have q2 := of_decide_eq_false h2
        omega
  · rintro F ⟨⟨t, c, al, rfl⟩, hpre⟩
    rw [List.take_length] at hpre
    refine aw_assoc (aw_sk 10 (by kernel_rfl) ?_)
    refine aw_sc (decide ((l.length : Int) < ((l.map rowFi).length : Int))) (by kernel_rfl) (fun h => absurd (of_decide_eq_true h) (by rw [List.length_map]; omega)) (fun _ => ?_)
    refine aw_sexit ?_
    dsimp only [Then, InBlock, if_true]
    refine aw_sk 10 (by kernel_rfl) ?_
    refine aw_ret ?_
    exact ⟨.inr rfl, [BO true], by kernel_rfl, by kernel_rfl, ⟨true, by kernel_rfl, fun _ => ⟨hl, hpre⟩⟩, by kernel_rfl⟩
theorem few17 (l : List En) (nl : Bool) (o : Own) : ∃ b, callQ cfg17 (evK cfg17) 17 [.slice (l.map rowEn) nl o] = some (BO b) ∧ (b = true → l.length ≤ 60 ∧ ∀ x ∈ l, x.1.length ≤ 1000 ∧ x.2.2.1.length ≤ 1000) := by
  suffices h : ∃ r H', evK cfg17 17 [.slice (l.map rowEn) nl o] [] = some (r, H') ∧ (∃ b, r = BO b ∧ (b = true → l.length ≤ 60 ∧ ∀ x ∈ l, x.1.length ≤ 1000 ∧ x.2.2.1.length ≤ 1000)) ∧ H' = [] by
    obtain ⟨r, H', h, ⟨b, rfl, hb⟩, rfl⟩ := h
    exact ⟨b, callQ_of (by kernel_rfl) h, hb⟩
  refine evK_ofE (P := fun r H' => (∃ b, r = BO b ∧ (b = true → l.length ≤ 60 ∧ ∀ x ∈ l, x.1.length ≤ 1000 ∧ x.2.2.1.length ≤ 1000)) ∧ H' = []) Tryd.func17 rfl (of_decide_eq_true (by kernel_rfl)) (by kernel_rfl) (by kernel_rfl) rfl ?_
  unfold Tryd.f17
  dsimp only
  refine aw_sk 10 (by kernel_rfl) ?_
  refine aw_assoc (aw_sk 10 (by kernel_rfl) ?_)
  refine aw_sc (decide ((60 : Int) < ((l.map rowEn).length : Int))) (by kernel_rfl) (fun h => ?_) (fun h => ?_)
  · refine aw_assoc (aw_sk 10 (by kernel_rfl) ?_)
    refine aw_sret ?_
    exact ⟨.inr rfl, [BO false], by kernel_rfl, by kernel_rfl, ⟨false, by kernel_rfl, fun h => by cases h⟩, by kernel_rfl⟩
  have hl : l.length ≤ 60 := by
    have := of_decide_eq_false h
    rw [List.length_map] at this
    omega
  refine aw_sskip (aw_assoc (aw_sk 10 (by kernel_rfl) ?_))
  refine aw_sfor l.length (fun i F => Is 29 [] (cfg17.heap 17) [(0, .slice (l.map rowEn) nl o), (3, I64 (i : Nat))] F ∧ ∀ x ∈ l.take i, x.1.length ≤ 1000 ∧ x.2.2.1.length ≤ 1000) ?_ ?_ ?_
  · exact ⟨is_of (by kernel_rfl), by simp⟩
  · rintro i F hi ⟨⟨t, c, al, rfl⟩, hpre⟩
    refine aw_assoc (aw_sk 10 (by kernel_rfl) ?_)
    refine aw_sc (decide ((i : Int) < ((l.map rowEn).length : Int))) (by kernel_rfl) (fun _ => ?_) (fun h => absurd (of_decide_eq_false h) (by rw [List.length_map]; omega))
    refine aw_sskip (aw_seq (aw_block (aw_sr (ow_k 2 10 (by kernel_rfl) ?_))))
    refine ow_at (rows := l.map rowEn) (nl := nl) (own := o) (row := rowEn l[i]) (n := i) (e := 63) (row_at _ _ _ hi) (by omega) (by kernel_rfl) (by kernel_rfl) (by kernel_rfl) (by kernel_rfl) (by kernel_rfl) (by kernel_rfl) ?_
    refine ow_k 3 10 (by kernel_rfl) ?_
    cases h1 : decide ((100 : Int) < (l[i].1.length : Int)) with
    | true =>
      refine ow_is (x := decide ((100 : Int) < (l[i].1.length : Int))) (w := true) h1 (by kernel_rfl) (by kernel_rfl) (by kernel_rfl) (by kernel_rfl) (by kernel_rfl) ?_
      refine ow_all 10 (by kernel_rfl) ?_
      refine aw_cond (t := true) (by kernel_rfl) (fun _ => ?_) (fun h => by cases h)
      refine aw_sk 10 (by kernel_rfl) ?_
      refine aw_ret ?_
      exact ⟨.inr rfl, [BO false], by kernel_rfl, by kernel_rfl, ⟨false, by kernel_rfl, fun h => by cases h⟩, by kernel_rfl⟩
    | false =>
      refine ow_is (x := decide ((100 : Int) < (l[i].1.length : Int))) (w := false) h1 (by kernel_rfl) (by kernel_rfl) (by kernel_rfl) (by kernel_rfl) (by kernel_rfl) ?_
      refine ow_k 3 10 (by kernel_rfl) ?_
      refine ow_at (rows := l.map rowEn) (nl := nl) (own := o) (row := rowEn l[i]) (n := i) (e := 63) (row_at _ _ _ hi) (by omega) (by kernel_rfl) (by kernel_rfl) (by kernel_rfl) (by kernel_rfl) (by kernel_rfl) (by kernel_rfl) ?_
      refine ow_all 10 (by kernel_rfl) ?_
      refine aw_cond (t := decide ((1000 : Int) < (l[i].2.2.1.length : Int))) (by kernel_rfl) (fun _ => ?_) (fun h2 => ?_)
      · refine aw_sk 10 (by kernel_rfl) ?_
        refine aw_ret ?_
        exact ⟨.inr rfl, [BO false], by kernel_rfl, by kernel_rfl, ⟨false, by kernel_rfl, fun h => by cases h⟩, by kernel_rfl⟩
      · refine aw_skip ?_
        refine aw_rk 10 (by kernel_rfl) ?_
        refine ⟨is_at (l' := [(0, .slice (l.map rowEn) nl o), (3, I64 (IntKind.i64.wrap ((i : Int) + 1)))]) (by rw [succ64 (by omega)]) (by kernel_rfl), mem_take_next hi hpre ?_⟩
        have q1 := of_decide_eq_false h1
        have q2 := of_decide_eq_false h2
        omega
  · rintro F ⟨⟨t, c, al, rfl⟩, hpre⟩
    rw [List.take_length] at hpre
    refine aw_assoc (aw_sk 10 (by kernel_rfl) ?_)
    refine aw_sc (decide ((l.length : Int) < ((l.map rowEn).length : Int))) (by kernel_rfl) (fun h => absurd (of_decide_eq_true h) (by rw [List.length_map]; omega)) (fun _ => ?_)
    refine aw_sexit ?_
    dsimp only [Then, InBlock, if_true]
    refine aw_sk 10 (by kernel_rfl) ?_
    refine aw_ret ?_
    exact ⟨.inr rfl, [BO true], by kernel_rfl, by kernel_rfl, ⟨true, by kernel_rfl, fun _ => ⟨hl, hpre⟩⟩, by kernel_rfl⟩
theorem few8 (s : Stt) (z : Nl) (hz : OkZ z) : ∃ b, callQ cfg17 (evK cfg17) 8 [.agg (cellsSt s z)] = some (BO b) ∧ (b = true → Short s ∧ Tiny s) := by
  obtain ⟨a, tr, ar, ch, ow, sh, tu, pe, th, co, wa, ha⟩ := s
  suffices h : ∃ r H', evK cfg17 8 [.agg (cellsSt (a, tr, ar, ch, ow, sh, tu, pe, th, co, wa, ha) z)] [] = some (r, H') ∧ (∃ b, r = BO b ∧ (b = true → Short (a, tr, ar, ch, ow, sh, tu, pe, th, co, wa, ha) ∧ Tiny (a, tr, ar, ch, ow, sh, tu, pe, th, co, wa, ha))) ∧ H' = [] by
    obtain ⟨r, H', h, ⟨b, rfl, hb⟩, rfl⟩ := h
    exact ⟨b, callQ_of (by kernel_rfl) h, hb⟩
  refine evK_ofE (P := fun r H' => (∃ b, r = BO b ∧ (b = true → Short (a, tr, ar, ch, ow, sh, tu, pe, th, co, wa, ha) ∧ Tiny (a, tr, ar, ch, ow, sh, tu, pe, th, co, wa, ha))) ∧ H' = []) Tryd.func8 rfl (of_decide_eq_true (by kernel_rfl)) (by kernel_rfl) (by kernel_rfl) rfl ?_
  unfold Tryd.f8
  dsimp only
  refine aw_sk 10 (by kernel_rfl) ?_
  refine aw_absE 82 [] [] (cfg17.heap 8) [(1, .box 0 (cellsSt (a, tr, ar, ch, ow, sh, tu, pe, th, co, wa, ha) z))] [(1, .box 0 ((cellsSt (a, tr, ar, ch, ow, sh, tu, pe, th, co, wa, ha) z).map strip1))] (by rw [strip1_st _ hz]) rfl (by kernel_rfl) (fun t9 c9 al9 => ?_)
  obtain ⟨b1, h1, g1⟩ := few16 tr z.tree z.treeO
  obtain ⟨b2, h2, g2⟩ := few17 ar z.arch z.archO
  obtain ⟨b3, h3, g3⟩ := few17 sh z.shown z.shownO
  obtain ⟨b4, h4, g4⟩ := few17 th z.theirs z.theirsO
  refine aw_sr (ow_k 2 10 (by kernel_rfl) ?_)
  refine ow_callG (k := 16) (first := []) (captured := []) (xs := [.slice (tr.map rowFi) z.tree z.treeO]) (r := BO b1) (by kernel_rfl) (by kernel_rfl) (by kernel_rfl) (by kernel_rfl) (by kernel_rfl) (by kernel_rfl) (by simp only [List.map_cons, List.map_nil, strip_ok hz.tree, strip_ok hz.arch, strip_ok hz.own, strip_ok hz.shown, strip_ok hz.theirs, strip_ok hz.conf, strip_ok hz.waits]; exact h1) (by kernel_rfl) (by kernel_rfl) ?_
  refine ow_all 10 (by kernel_rfl) ?_
  refine aw_sr (ow_k 2 10 (by kernel_rfl) ?_)
  refine ow_callG (k := 17) (first := []) (captured := []) (xs := [.slice (ar.map rowEn) z.arch z.archO]) (r := BO b2) (by kernel_rfl) (by kernel_rfl) (by kernel_rfl) (by kernel_rfl) (by kernel_rfl) (by kernel_rfl) (by simp only [List.map_cons, List.map_nil, strip_ok hz.tree, strip_ok hz.arch, strip_ok hz.own, strip_ok hz.shown, strip_ok hz.theirs, strip_ok hz.conf, strip_ok hz.waits]; exact h2) (by kernel_rfl) (by kernel_rfl) ?_
  refine ow_all 10 (by kernel_rfl) ?_
  refine aw_sr (ow_k 2 10 (by kernel_rfl) ?_)
  refine ow_callG (k := 17) (first := []) (captured := []) (xs := [.slice (sh.map rowEn) z.shown z.shownO]) (r := BO b3) (by kernel_rfl) (by kernel_rfl) (by kernel_rfl) (by kernel_rfl) (by kernel_rfl) (by kernel_rfl) (by simp only [List.map_cons, List.map_nil, strip_ok hz.tree, strip_ok hz.arch, strip_ok hz.own, strip_ok hz.shown, strip_ok hz.theirs, strip_ok hz.conf, strip_ok hz.waits]; exact h3) (by kernel_rfl) (by kernel_rfl) ?_
  refine ow_all 10 (by kernel_rfl) ?_
  refine aw_sr (ow_k 2 10 (by kernel_rfl) ?_)
  refine ow_callG (k := 17) (first := []) (captured := []) (xs := [.slice (th.map rowEn) z.theirs z.theirsO]) (r := BO b4) (by kernel_rfl) (by kernel_rfl) (by kernel_rfl) (by kernel_rfl) (by kernel_rfl) (by kernel_rfl) (by simp only [List.map_cons, List.map_nil, strip_ok hz.tree, strip_ok hz.arch, strip_ok hz.own, strip_ok hz.shown, strip_ok hz.theirs, strip_ok hz.conf, strip_ok hz.waits]; exact h4) (by kernel_rfl) (by kernel_rfl) ?_
  refine ow_all 10 (by kernel_rfl) ?_
  refine aw_abs 82 [] (cfg17.heap 8) [(1, .box 0 (cellsSt (a, tr, ar, ch, ow, sh, tu, pe, th, co, wa, ha) z)), (3, BO b1), (4, BO b2), (5, BO b3), (6, BO b4)] (by kernel_rfl) (fun t0 c0 al0 => ?_)
  refine aw_assoc (aw_sr ?_)
  cases b1 with
  | false =>
      refine ow_all 10 (by kernel_rfl) ?_
      refine aw_sc true (by kernel_rfl) (fun _ => ?_) (fun h => by cases h)
      refine aw_assoc (aw_sk 10 (by kernel_rfl) ?_)
      refine aw_sret ?_
      exact ⟨.inr rfl, [BO false], by kernel_rfl, by kernel_rfl, ⟨false, by kernel_rfl, fun h => by cases h⟩, by kernel_rfl⟩
  | true =>
  cases b2 with
  | false =>
      refine ow_all 10 (by kernel_rfl) ?_
      refine aw_sc true (by kernel_rfl) (fun _ => ?_) (fun h => by cases h)
      refine aw_assoc (aw_sk 10 (by kernel_rfl) ?_)
      refine aw_sret ?_
      exact ⟨.inr rfl, [BO false], by kernel_rfl, by kernel_rfl, ⟨false, by kernel_rfl, fun h => by cases h⟩, by kernel_rfl⟩
  | true =>
  cases b3 with
  | false =>
      refine ow_all 10 (by kernel_rfl) ?_
      refine aw_sc true (by kernel_rfl) (fun _ => ?_) (fun h => by cases h)
      refine aw_assoc (aw_sk 10 (by kernel_rfl) ?_)
      refine aw_sret ?_
      exact ⟨.inr rfl, [BO false], by kernel_rfl, by kernel_rfl, ⟨false, by kernel_rfl, fun h => by cases h⟩, by kernel_rfl⟩
  | true =>
  cases b4 with
  | false =>
      refine ow_all 10 (by kernel_rfl) ?_
      refine aw_sc true (by kernel_rfl) (fun _ => ?_) (fun h => by cases h)
      refine aw_assoc (aw_sk 10 (by kernel_rfl) ?_)
      refine aw_sret ?_
      exact ⟨.inr rfl, [BO false], by kernel_rfl, by kernel_rfl, ⟨false, by kernel_rfl, fun h => by cases h⟩, by kernel_rfl⟩
  | true =>
  refine ow_k 18 10 (by kernel_rfl) ?_
  cases e1 : decide ((250 : Int) < ((ow.map rowN).length : Int)) with
  | true =>
      refine ow_is (x := decide ((250 : Int) < ((ow.map rowN).length : Int))) (w := true) e1 (by kernel_rfl) (by kernel_rfl) (by kernel_rfl) (by kernel_rfl) (by kernel_rfl) ?_
      refine ow_all 10 (by kernel_rfl) ?_
      refine aw_sc true (by kernel_rfl) (fun _ => ?_) (fun h => by cases h)
      refine aw_assoc (aw_sk 10 (by kernel_rfl) ?_)
      refine aw_sret ?_
      exact ⟨.inr rfl, [BO false], by kernel_rfl, by kernel_rfl, ⟨false, by kernel_rfl, fun h => by cases h⟩, by kernel_rfl⟩
  | false =>
  refine ow_is (x := decide ((250 : Int) < ((ow.map rowN).length : Int))) (w := false) e1 (by kernel_rfl) (by kernel_rfl) (by kernel_rfl) (by kernel_rfl) (by kernel_rfl) ?_
  refine ow_k 5 10 (by kernel_rfl) ?_
  cases e2 : decide ((60 : Int) < ((co.map rowS).length : Int)) with
  | true =>
      refine ow_is (x := decide ((60 : Int) < ((co.map rowS).length : Int))) (w := true) e2 (by kernel_rfl) (by kernel_rfl) (by kernel_rfl) (by kernel_rfl) (by kernel_rfl) ?_
      refine ow_all 10 (by kernel_rfl) ?_
      refine aw_sc true (by kernel_rfl) (fun _ => ?_) (fun h => by cases h)
      refine aw_assoc (aw_sk 10 (by kernel_rfl) ?_)
      refine aw_sret ?_
      exact ⟨.inr rfl, [BO false], by kernel_rfl, by kernel_rfl, ⟨false, by kernel_rfl, fun h => by cases h⟩, by kernel_rfl⟩
  | false =>
  refine ow_is (x := decide ((60 : Int) < ((co.map rowS).length : Int))) (w := false) e2 (by kernel_rfl) (by kernel_rfl) (by kernel_rfl) (by kernel_rfl) (by kernel_rfl) ?_
  refine ow_k 5 10 (by kernel_rfl) ?_
  cases e3 : decide ((250 : Int) < ((wa.map rowPu).length : Int)) with
  | true =>
      refine ow_is (x := decide ((250 : Int) < ((wa.map rowPu).length : Int))) (w := true) e3 (by kernel_rfl) (by kernel_rfl) (by kernel_rfl) (by kernel_rfl) (by kernel_rfl) ?_
      refine ow_all 10 (by kernel_rfl) ?_
      refine aw_sc true (by kernel_rfl) (fun _ => ?_) (fun h => by cases h)
      refine aw_assoc (aw_sk 10 (by kernel_rfl) ?_)
      refine aw_sret ?_
      exact ⟨.inr rfl, [BO false], by kernel_rfl, by kernel_rfl, ⟨false, by kernel_rfl, fun h => by cases h⟩, by kernel_rfl⟩
  | false =>
  refine ow_is (x := decide ((250 : Int) < ((wa.map rowPu).length : Int))) (w := false) e3 (by kernel_rfl) (by kernel_rfl) (by kernel_rfl) (by kernel_rfl) (by kernel_rfl) ?_
  refine ow_all 10 (by kernel_rfl) ?_
  refine aw_sc false (by kernel_rfl) (fun h => by cases h) (fun _ => ?_)
  refine aw_sskip ?_
  have hsh : Short (a, tr, ar, ch, ow, sh, tu, pe, th, co, wa, ha) := by
    have q1 := (g1 rfl).1
    have q2 := (g2 rfl).1
    have q3 := (g3 rfl).1
    have q4 := (g4 rfl).1
    have r1 := of_decide_eq_false e1
    have r2 := of_decide_eq_false e2
    have r3 := of_decide_eq_false e3
    rw [List.length_map] at r1 r2 r3
    unfold Short
    dsimp only
    omega
  have lco : co.length ≤ 256 := hsh.2.2.2.2.2.1
  have lwa : wa.length ≤ 300 := hsh.2.2.2.2.2.2
  refine aw_assoc (aw_sk 10 (by kernel_rfl) ?_)
  refine aw_sfor co.length (fun i F => Is 82 [] (cfg17.heap 8) [(1, .box 0 (cellsSt (a, tr, ar, ch, ow, sh, tu, pe, th, co, wa, ha) z)), (7, I64 (i : Nat))] F ∧ ∀ x ∈ co.take i, x.length ≤ 1000) ?_ ?_ ?_
  · exact ⟨is_of (by kernel_rfl), by simp⟩
  · rintro i F hi ⟨⟨t, c, al, rfl⟩, hpre⟩
    refine aw_assoc (aw_sk 10 (by kernel_rfl) ?_)
    refine aw_sc (decide ((i : Int) < ((co.map rowS).length : Int))) (by kernel_rfl) (fun _ => ?_) (fun h => absurd (of_decide_eq_false h) (by rw [List.length_map]; omega))
    refine aw_sskip (aw_seq (aw_block (aw_sr (ow_k 3 10 (by kernel_rfl) ?_))))
    refine ow_at (rows := co.map rowS) (nl := z.conf) (own := z.confO) (row := rowS co[i]) (n := i) (e := 9) (row_at _ _ _ hi) (by omega) (by kernel_rfl) (by kernel_rfl) (by kernel_rfl) (by kernel_rfl) (by kernel_rfl) (by kernel_rfl) ?_
    refine ow_all 10 (by kernel_rfl) ?_
    refine aw_cond (t := decide ((100 : Int) < (co[i].length : Int))) (by kernel_rfl) (fun _ => ?_) (fun h2 => ?_)
    · refine aw_sk 10 (by kernel_rfl) ?_
      refine aw_ret ?_
      exact ⟨.inr rfl, [BO false], by kernel_rfl, by kernel_rfl, ⟨false, by kernel_rfl, fun h => by cases h⟩, by kernel_rfl⟩
    · refine aw_skip ?_
      refine aw_rk 10 (by kernel_rfl) ?_
      refine ⟨is_at (l' := [(1, .box 0 (cellsSt (a, tr, ar, ch, ow, sh, tu, pe, th, co, wa, ha) z)), (7, I64 (IntKind.i64.wrap ((i : Int) + 1)))]) (by rw [succ64 (by omega)]) (by kernel_rfl), mem_take_next hi hpre ?_⟩
      have q2 := of_decide_eq_false h2
      omega
  rintro F ⟨⟨t, c, al, rfl⟩, hco⟩
  rw [List.take_length] at hco
  refine aw_assoc (aw_sk 10 (by kernel_rfl) ?_)
  refine aw_sc (decide ((co.length : Int) < ((co.map rowS).length : Int))) (by kernel_rfl) (fun h => absurd (of_decide_eq_true h) (by rw [List.length_map]; omega)) (fun _ => ?_)
  refine aw_sexit ?_
  dsimp only [Then, InBlock, if_true]
  refine aw_assoc (aw_sk 10 (by kernel_rfl) ?_)
  refine aw_sfor wa.length (fun i F => Is 82 [] (cfg17.heap 8) [(1, .box 0 (cellsSt (a, tr, ar, ch, ow, sh, tu, pe, th, co, wa, ha) z)), (8, I64 (i : Nat))] F ∧ ∀ x ∈ wa.take i, x.2.length ≤ 1000) ?_ ?_ ?_
  · exact ⟨is_of (by kernel_rfl), by simp⟩
  · rintro i F hi ⟨⟨t, c, al, rfl⟩, hpre⟩
    refine aw_assoc (aw_sk 10 (by kernel_rfl) ?_)
    refine aw_sc (decide ((i : Int) < ((wa.map rowPu).length : Int))) (by kernel_rfl) (fun _ => ?_) (fun h => absurd (of_decide_eq_false h) (by rw [List.length_map]; omega))
    refine aw_sskip (aw_seq (aw_block (aw_sr (ow_k 3 10 (by kernel_rfl) ?_))))
    refine ow_at (rows := wa.map rowPu) (nl := z.waits) (own := z.waitsO) (row := rowPu wa[i]) (n := i) (e := 48) (row_at _ _ _ hi) (by omega) (by kernel_rfl) (by kernel_rfl) (by kernel_rfl) (by kernel_rfl) (by kernel_rfl) (by kernel_rfl) ?_
    refine ow_all 10 (by kernel_rfl) ?_
    refine aw_cond (t := decide ((100 : Int) < (wa[i].2.length : Int))) (by kernel_rfl) (fun _ => ?_) (fun h2 => ?_)
    · refine aw_sk 10 (by kernel_rfl) ?_
      refine aw_ret ?_
      exact ⟨.inr rfl, [BO false], by kernel_rfl, by kernel_rfl, ⟨false, by kernel_rfl, fun h => by cases h⟩, by kernel_rfl⟩
    · refine aw_skip ?_
      refine aw_rk 10 (by kernel_rfl) ?_
      refine ⟨is_at (l' := [(1, .box 0 (cellsSt (a, tr, ar, ch, ow, sh, tu, pe, th, co, wa, ha) z)), (8, I64 (IntKind.i64.wrap ((i : Int) + 1)))]) (by rw [succ64 (by omega)]) (by kernel_rfl), mem_take_next hi hpre ?_⟩
      have q2 := of_decide_eq_false h2
      omega
  rintro F ⟨⟨t, c, al, rfl⟩, hwa⟩
  rw [List.take_length] at hwa
  refine aw_assoc (aw_sk 10 (by kernel_rfl) ?_)
  refine aw_sc (decide ((wa.length : Int) < ((wa.map rowPu).length : Int))) (by kernel_rfl) (fun h => absurd (of_decide_eq_true h) (by rw [List.length_map]; omega)) (fun _ => ?_)
  refine aw_sexit ?_
  dsimp only [Then, InBlock, if_true]
  refine aw_sk 10 (by kernel_rfl) ?_
  refine aw_ret ?_
  exact ⟨.inr rfl, [BO true], by kernel_rfl, by kernel_rfl, ⟨true, by kernel_rfl, fun _ => ⟨hsh, (g1 rfl).2, (g2 rfl).2, (g3 rfl).2, (g4 rfl).2, hco, hwa⟩⟩, by kernel_rfl⟩
end Go.Proofs.V
namespace Go.Proofs.V
open Go Go.Proofs Go.Proofs.V.Wire
set_option linter.unusedVariables false
set_option linter.unusedSimpArgs false
set_option maxRecDepth 100000
set_option maxHeartbeats 1000000
theorem byte_at (s : BS) (i : Nat) (h : i < s.length) : (bsA s)[(i : Int).toNat]? = some (rowOfByte s[i]) := by
  simp [bsA, h]
theorem name80 (s : BS) (hs : s.length ≤ 1000000000) : ∃ b, callQ cfg17 (evK cfg17) 80 [ST s] = some (BO b) ∧ (b = true → s.length ≤ 12) := by
  suffices h : ∃ r H', evK cfg17 80 [ST s] [] = some (r, H') ∧ (∃ b, r = BO b ∧ (b = true → s.length ≤ 12)) ∧ H' = [] by
    obtain ⟨r, H', h, ⟨b, rfl, hb⟩, rfl⟩ := h
    exact ⟨b, callQ_of (by kernel_rfl) h, hb⟩
  refine evK_ofE (P := fun r H' => (∃ b, r = BO b ∧ (b = true → s.length ≤ 12)) ∧ H' = []) Tryd.func80 rfl (of_decide_eq_true (by kernel_rfl)) (by kernel_rfl) (by kernel_rfl) rfl ?_
  unfold Tryd.f80
  dsimp only
  refine aw_sk 10 (by kernel_rfl) ?_
  refine aw_assoc (aw_sk 10 (by kernel_rfl) ?_)
  refine aw_sfor s.length (fun i F => Is 51 [] (cfg17.heap 80) [(0, ST s), (7, BSl s false .no), (8, I64 (bsA s).length), (9, I64 (i : Nat))] F) ?_ ?_ ?_
  · exact is_of (by kernel_rfl)
  · rintro i F hi ⟨t, c, al, rfl⟩
    refine aw_sk 10 (by kernel_rfl) ?_
    refine aw_sc (decide ((i : Int) < ((bsA s).length : Int))) (by kernel_rfl) (fun _ => ?_) (fun h => absurd (of_decide_eq_false h) (by rw [bsA_len]; omega))
    refine aw_sskip (aw_seq (aw_block (aw_sr ?_)))
    refine ow_at (rows := bsA s) (nl := false) (own := .no) (row := rowOfByte s[i]) (n := i) (e := 5) (byte_at _ _ hi) (by omega) (by kernel_rfl) (by kernel_rfl) (by kernel_rfl) (by kernel_rfl) (by kernel_rfl) (by kernel_rfl) ?_
    refine ow_all 10 (by kernel_rfl) ?_
    refine aw_mid (IsB 51 [] (cfg17.heap 80) 5 (fun _ => True) [(0, ST s), (4, .at (.int .u8 s[i].toNat)), (7, BSl s false .no), (8, I64 (bsA s).length), (9, I64 (i : Nat))]) ?_ ?_
    · refine ow_k 1 10 (by kernel_rfl) ?_
      have fin := @isBX_of 51 [] (cfg17.heap 80) 5 [(0, ST s), (4, .at (.int .u8 s[i].toNat)), (7, BSl s false .no), (8, I64 (bsA s).length), (9, I64 (i : Nat))]
      cases hA : decide ((97 : Int) ≤ (s[i].toNat : Int)) with
      | true =>
        refine ow_is (x := decide ((97 : Int) ≤ (s[i].toNat : Int))) (w := true) hA (by kernel_rfl) (by kernel_rfl) (by kernel_rfl) (by kernel_rfl) (by kernel_rfl) ?_
        refine ow_k 2 10 (by kernel_rfl) ?_
        cases hB : decide ((s[i].toNat : Int) ≤ 122) with
        | true =>
          refine ow_is (x := decide ((s[i].toNat : Int) ≤ 122)) (w := true) hB (by kernel_rfl) (by kernel_rfl) (by kernel_rfl) (by kernel_rfl) (by kernel_rfl) ?_
          refine ow_all 10 (by kernel_rfl) ?_
          exact fin (by kernel_rfl) (by kernel_rfl)
        | false =>
          refine ow_is (x := decide ((s[i].toNat : Int) ≤ 122)) (w := false) hB (by kernel_rfl) (by kernel_rfl) (by kernel_rfl) (by kernel_rfl) (by kernel_rfl) ?_
          refine ow_k 3 10 (by kernel_rfl) ?_
          cases hC : decide ((48 : Int) ≤ (s[i].toNat : Int)) with
          | true =>
            refine ow_is (x := decide ((48 : Int) ≤ (s[i].toNat : Int))) (w := true) hC (by kernel_rfl) (by kernel_rfl) (by kernel_rfl) (by kernel_rfl) (by kernel_rfl) ?_
            refine ow_all 10 (by kernel_rfl) ?_
            exact fin (by kernel_rfl) (by kernel_rfl)
          | false =>
            refine ow_is (x := decide ((48 : Int) ≤ (s[i].toNat : Int))) (w := false) hC (by kernel_rfl) (by kernel_rfl) (by kernel_rfl) (by kernel_rfl) (by kernel_rfl) ?_
            refine ow_all 10 (by kernel_rfl) ?_
            exact fin (by kernel_rfl) (by kernel_rfl)
      | false =>
        refine ow_is (x := decide ((97 : Int) ≤ (s[i].toNat : Int))) (w := false) hA (by kernel_rfl) (by kernel_rfl) (by kernel_rfl) (by kernel_rfl) (by kernel_rfl) ?_
        refine ow_k 6 10 (by kernel_rfl) ?_
        cases hC : decide ((48 : Int) ≤ (s[i].toNat : Int)) with
        | true =>
          refine ow_is (x := decide ((48 : Int) ≤ (s[i].toNat : Int))) (w := true) hC (by kernel_rfl) (by kernel_rfl) (by kernel_rfl) (by kernel_rfl) (by kernel_rfl) ?_
          refine ow_all 10 (by kernel_rfl) ?_
          exact fin (by kernel_rfl) (by kernel_rfl)
        | false =>
          refine ow_is (x := decide ((48 : Int) ≤ (s[i].toNat : Int))) (w := false) hC (by kernel_rfl) (by kernel_rfl) (by kernel_rfl) (by kernel_rfl) (by kernel_rfl) ?_
          refine ow_all 10 (by kernel_rfl) ?_
          exact fin (by kernel_rfl) (by kernel_rfl)
    · rintro F ⟨v, _, t, c, al, rfl⟩
      cases v with
      | true =>
        refine aw_sk 10 (by kernel_rfl) ?_
        refine aw_cond (t := false) (by kernel_rfl) (fun h => by cases h) (fun _ => ?_)
        refine aw_skip ?_
        refine aw_rk 10 (by kernel_rfl) ?_
        exact is_at (l' := [(0, ST s), (7, BSl s false .no), (8, I64 (bsA s).length), (9, I64 (IntKind.i64.wrap ((i : Int) + 1)))]) (by rw [succ64 (by omega)]) (by kernel_rfl)
      | false =>
        refine aw_sk 40 (by kernel_rfl) ?_
        refine aw_condX (by kernel_rfl) ?_ ?_
        · refine aw_sk 10 (by kernel_rfl) ?_
          refine aw_ret ?_
          exact ⟨.inr rfl, [BO false], by kernel_rfl, by kernel_rfl, ⟨false, by kernel_rfl, fun h => by cases h⟩, by kernel_rfl⟩
        · refine aw_skip ?_
          refine aw_rk 10 (by kernel_rfl) ?_
          exact is_at (l' := [(0, ST s), (7, BSl s false .no), (8, I64 (bsA s).length), (9, I64 (IntKind.i64.wrap ((i : Int) + 1)))]) (by rw [succ64 (by omega)]) (by kernel_rfl)
  · rintro F ⟨t, c, al, rfl⟩
    refine aw_sk 10 (by kernel_rfl) ?_
    refine aw_sc (decide ((s.length : Int) < ((bsA s).length : Int))) (by kernel_rfl) (fun h => absurd (of_decide_eq_true h) (by rw [bsA_len]; omega)) (fun _ => ?_)
    refine aw_sexit ?_
    dsimp only [Then, InBlock, if_true]
    refine aw_mid (IsB 51 [] (cfg17.heap 80) 2 (fun b => b = true → s.length ≤ 12) []) ?_ ?_
    · refine ow_k 2 10 (by kernel_rfl) ?_
      cases hP : decide ((0 : Int) < (s.length : Int)) with
      | false =>
        refine ow_is (x := decide ((0 : Int) < (s.length : Int))) (w := false) hP (by kernel_rfl) (by kernel_rfl) (by kernel_rfl) (by kernel_rfl) (by kernel_rfl) ?_
        refine ow_all 10 (by kernel_rfl) ?_
        exact isB_of false (fun h => by cases h) (by kernel_rfl)
      | true =>
        refine ow_is (x := decide ((0 : Int) < (s.length : Int))) (w := true) hP (by kernel_rfl) (by kernel_rfl) (by kernel_rfl) (by kernel_rfl) (by kernel_rfl) ?_
        refine ow_k 3 10 (by kernel_rfl) ?_
        cases hQ : decide ((s.length : Int) ≤ 12) with
        | false =>
          refine ow_is (x := decide ((s.length : Int) ≤ 12)) (w := false) hQ (by kernel_rfl) (by kernel_rfl) (by kernel_rfl) (by kernel_rfl) (by kernel_rfl) ?_
          refine ow_all 10 (by kernel_rfl) ?_
          exact isB_of false (fun h => by cases h) (by kernel_rfl)
        | true =>
          refine ow_is (x := decide ((s.length : Int) ≤ 12)) (w := true) hQ (by kernel_rfl) (by kernel_rfl) (by kernel_rfl) (by kernel_rfl) (by kernel_rfl) ?_
          refine ow_k 3 10 (by kernel_rfl) ?_
          cases hR : (!((⟨⟨s⟩⟩ : ByteArray).toList == (⟨⟨[46]⟩⟩ : ByteArray).toList)) with
          | false =>
            refine ow_is (x := (!((⟨⟨s⟩⟩ : ByteArray).toList == (⟨⟨[46]⟩⟩ : ByteArray).toList))) (w := false) hR (by kernel_rfl) (by kernel_rfl) (by kernel_rfl) (by kernel_rfl) (by kernel_rfl) ?_
            refine ow_all 10 (by kernel_rfl) ?_
            exact isB_of false (fun h => by cases h) (by kernel_rfl)
          | true =>
            refine ow_is (x := (!((⟨⟨s⟩⟩ : ByteArray).toList == (⟨⟨[46]⟩⟩ : ByteArray).toList))) (w := true) hR (by kernel_rfl) (by kernel_rfl) (by kernel_rfl) (by kernel_rfl) (by kernel_rfl) ?_
            refine ow_all 10 (by kernel_rfl) ?_
            exact isB_of (!((⟨⟨s⟩⟩ : ByteArray).toList == (⟨⟨[46, 46]⟩⟩ : ByteArray).toList)) (fun _ => by have := of_decide_eq_true hQ; omega) (by kernel_rfl)
    · rintro F ⟨v, hv, t, c, al, rfl⟩
      refine aw_ret ?_
      exact ⟨.inr rfl, [BO v], by kernel_rfl, by kernel_rfl, ⟨v, by kernel_rfl, hv⟩, by kernel_rfl⟩
end Go.Proofs.V
namespace Go.Proofs.V
open Go Go.Proofs Go.Proofs.V.Wire
set_option linter.unusedVariables false
set_option linter.unusedSimpArgs false
set_option maxRecDepth 100000
set_option maxHeartbeats 1000000
theorem indexByte_lt : ∀ (l : BS) (c : UInt8), Lib.indexByte l c = -1 ∨ (0 ≤ Lib.indexByte l c ∧ Lib.indexByte l c < l.length)
  | [], c => .inl rfl
  | b :: l, c => by
    have ih := indexByte_lt l c
    unfold Lib.indexByte
    split
    · right; simp
    · split
      · left; rfl
      · rename_i h1 h2
        right
        rcases ih with ih | ih
        · simp [ih] at h2
        · simp only [List.length_cons]; omega
theorem index91 (s : BS) : ∃ m : Int, callQ cfg17 (evK cfg17) 86 [ST s, ST [47]] = some (I64 m) ∧ (m = -1 ∨ (0 ≤ m ∧ m < s.length)) := by
  have key : ∃ m : Int, callQ cfg17 (evK cfg17) 91 [ST s, ST [47]] = some (I64 m) ∧ (m = -1 ∨ (0 ≤ m ∧ m < s.length)) := by
    suffices h : ∃ r H', evK cfg17 91 [ST s, ST [47]] [] = some (r, H') ∧ (∃ m : Int, r = I64 m ∧ (m = -1 ∨ (0 ≤ m ∧ m < s.length))) ∧ H' = [] by
      obtain ⟨r, H', h, ⟨b, rfl, hb⟩, rfl⟩ := h
      exact ⟨b, callQ_of (by kernel_rfl) h, hb⟩
    refine evK_ofE (P := fun r H' => (∃ m : Int, r = I64 m ∧ (m = -1 ∨ (0 ≤ m ∧ m < s.length))) ∧ H' = []) Tryd.func91 rfl (of_decide_eq_true (by kernel_rfl)) (by kernel_rfl) (by kernel_rfl) rfl ?_
    unfold Tryd.f91
    dsimp only
    refine aw_sk 10 (by kernel_rfl) ?_
    refine aw_sk 10 (by kernel_rfl) ?_
    refine aw_seq (aw_block (aw_sk 10 (by kernel_rfl) ?_))
    refine aw_cond (t := ((⟨⟨[47]⟩⟩ : ByteArray).toList == (⟨⟨s⟩⟩ : ByteArray).toList)) (by kernel_rfl) (fun h => ?_) (fun _ => ?_)
    · have hs : s = [47] := by
        have := neS (a := [47]) (b := s)
        rw [h] at this
        exact (by simpa using this.symm : [47] = s).symm
      refine aw_sk 10 (by kernel_rfl) ?_
      refine aw_ret ?_
      exact ⟨.inr rfl, [I64 0], by kernel_rfl, by kernel_rfl, ⟨0, by kernel_rfl, by rw [hs]; right; decide⟩, by kernel_rfl⟩
    · refine aw_sk 10 (by kernel_rfl) ?_
      refine aw_cond (t := true) (by kernel_rfl) (fun _ => ?_) (fun h => by cases h)
      refine aw_sk 40 (by kernel_rfl) ?_
      refine aw_ret ?_
      exact ⟨.inr rfl, [I64 (Lib.indexByte s 47)], by kernel_rfl, by kernel_rfl, ⟨Lib.indexByte s 47, by kernel_rfl, indexByte_lt s 47⟩, by kernel_rfl⟩
  obtain ⟨m, h, hm⟩ := key
  refine ⟨m, callQ_of (by kernel_rfl) ?_, hm⟩
  refine evK_of Tryd.func86 rfl (of_decide_eq_true (by kernel_rfl)) (by kernel_rfl) (by kernel_rfl) rfl ?_
  unfold Tryd.f86
  dsimp only
  refine aw_sk 10 (by kernel_rfl) ?_
  refine aw_sr (ow_k 2 10 (by kernel_rfl) ?_)
  refine ow_callG (k := 91) (first := []) (captured := []) (xs := [ST s, ST [47]]) (r := I64 m) (by kernel_rfl) (by kernel_rfl) (by kernel_rfl) (by kernel_rfl) (by kernel_rfl) (by kernel_rfl) h (by kernel_rfl) (by kernel_rfl) ?_
  refine ow_all 10 (by kernel_rfl) ?_
  refine aw_ret ?_
  exact ⟨.inr rfl, [I64 m], by kernel_rfl, by kernel_rfl, by kernel_rfl, by kernel_rfl⟩
end Go.Proofs.V
namespace Go.Proofs.V
open Go Go.Proofs Go.Proofs.V.Wire
set_option linter.unusedVariables false
set_option linter.unusedSimpArgs false
set_option maxRecDepth 100000
set_option maxHeartbeats 1000000
def lens (ws : List BS) : Nat := (ws.map fun w => w.length + 1).sum
theorem lens_snoc (ws : List BS) (w : BS) : lens (ws ++ [w]) = lens ws + w.length + 1 := by
  simp [lens]; omega
def cells82 (N : Nat) (ws : List BS) : List AV := ws.map (fun w => ST w) ++ List.replicate (N - ws.length) (ST [])
theorem cells_len (N : Nat) (ws : List BS) (h : ws.length ≤ N) : (cells82 N ws).length = N := by
  simp [cells82]; omega
theorem cells_set (N : Nat) (ws : List BS) (w : BS) (h : ws.length < N) : splice (cells82 N ws) ws.length [ST w] = cells82 N (ws ++ [w]) := by
  have h1 : (cells82 N ws).take ws.length = ws.map (fun w => ST w) := by
    unfold cells82
    rw [List.take_append_of_le_length (by simp)]
    exact List.take_of_length_le (by simp)
  have h2 : (cells82 N ws).drop (ws.length + 1) = List.replicate (N - (ws.length + 1)) (ST []) := by
    unfold cells82
    rw [List.drop_append, List.drop_eq_nil_of_le (by simp)]
    simp
    omega
  simp only [splice, List.length_cons, List.length_nil, Nat.zero_add, h1, h2]
  simp [cells82]
theorem nohp_rowS (ws : List BS) (nl : Bool) (o : Own) (d : Nat) : nohp (d + 2) (.slice (ws.map rowS) nl o) = true := by
  simp [nohp, rowS]
set_option maxHeartbeats 2000000 in
theorem split82 (s : BS) (hs : s.length ≤ 1000000) : ∃ ws : List BS, ws ≠ [] ∧ lens ws = s.length + 1 ∧ evK cfg17 82 [ST s, ST [47], I64 0, I64 (-1)] [] = some (.slice (ws.map rowS) false .no, []) := by
  have hcl : Lib.countByte s 47 ≤ s.length := List.count_le_length
  suffices h : ∃ r, evK cfg17 82 [ST s, ST [47], I64 0, I64 (-1)] [] = some (r, []) ∧ (∃ ws : List BS, ws ≠ [] ∧ lens ws = s.length + 1 ∧ r = .slice (ws.map rowS) false .no) by
    obtain ⟨r, h, ws, h1, h2, rfl⟩ := h
    exact ⟨ws, h1, h2, h⟩
  refine evK_ofZE (P := fun r => ∃ ws : List BS, ws ≠ [] ∧ lens ws = s.length + 1 ∧ r = .slice (ws.map rowS) false .no) Tryd.func82 rfl (of_decide_eq_true (by kernel_rfl)) (by kernel_rfl) (by kernel_rfl) rfl ?_
  unfold Tryd.f82
  dsimp only
  refine aw_sk 10 (by kernel_rfl) ?_
  refine aw_assoc (aw_sk 10 (by kernel_rfl) ?_)
  refine aw_sc false (by kernel_rfl) (fun h => by cases h) (fun _ => ?_)
  refine aw_sskip (aw_assoc (aw_sk 10 (by kernel_rfl) ?_))
  refine aw_sc false (by kernel_rfl) (fun h => by cases h) (fun _ => ?_)
  refine aw_sskip (aw_assoc (aw_sk 10 (by kernel_rfl) ?_))
  refine aw_sc true (by kernel_rfl) (fun _ => ?_) (fun h => by cases h)
  refine aw_sk 60 (by kernel_rfl) ?_
  refine aw_sk 10 (by kernel_rfl) ?_
  have hw1 : IntKind.i64.wrap ((Lib.countByte s 47 : Nat) + 1 : Int) = ((Lib.countByte s 47 + 1 : Nat) : Int) := succ64 (by omega)
  have hw2 : IntKind.i64.wrap ((s.length : Nat) + 1 : Int) = ((s.length + 1 : Nat) : Int) := succ64 (by omega)
  refine aw_absE 66 [] [] (cfg17.heap 82) [(0, ST s), (1, ST [47]), (2, I64 0), (3, I64 (Lib.countByte s 47 + 1 : Nat))]
    [(0, ST s), (1, ST [47]), (2, I64 0), (3, I64 (if IntKind.i64.wrap ((s.length : Nat) + 1 : Int) < IntKind.i64.wrap ((Lib.countByte s 47 : Nat) + 1 : Int) then IntKind.i64.wrap ((s.length : Nat) + 1 : Int) else IntKind.i64.wrap ((Lib.countByte s 47 : Nat) + 1 : Int)))]
    (by rw [hw1, hw2, if_neg (by omega)]) rfl (by kernel_rfl) (fun t1 c1 al1 => ?_)
  generalize hN : Lib.countByte s 47 + 1 = N
  have hN0 : N ≠ 0 := by omega
  have hN1 : N ≤ 1000001 := by omega
  refine aw_sr (ow_k 1 10 (by kernel_rfl) ?_)
  refine ow_mk (n := N) (e := 9) (z := [ST []]) (sz := 1) (by_ := 16) hN0 (by omega) (by omega) (by kernel_rfl) (by kernel_rfl) (by kernel_rfl) (by kernel_rfl) (by kernel_rfl) (by kernel_rfl) (by kernel_rfl) (by kernel_rfl) (by kernel_rfl) (by kernel_rfl) (by kernel_rfl) ?_
  refine ow_all 10 (by kernel_rfl) ?_
  refine aw_sk 10 (by kernel_rfl) ?_
  refine aw_sk 10 (by kernel_rfl) ?_
  have hw3 : IntKind.i64.wrap ((N : Nat) - 1 : Int) = ((N - 1 : Nat) : Int) := by rw [wrapI (by omega) (by omega)]; omega
  refine aw_absE 66 [cells82 N []] [[] ++ (List.replicate N [ST []]).flatten] (cfg17.heap 82) [(0, ST s), (1, ST [47]), (2, I64 0), (3, I64 (N - 1 : Nat)), (9, .hs 0 0 N N 1), (10, I64 0)]
    [(0, ST s), (1, ST [47]), (2, I64 0), (3, I64 (IntKind.i64.wrap ((N : Nat) - 1 : Int))), (9, .hs 0 0 N N 1), (10, I64 0)] (by rw [hw3]) (by simp [cells82]) (by kernel_rfl) (fun t2 c2 al2 => ?_)
  refine aw_sforJ (N - 1) (fun i F => ∃ ws s', Is 66 [cells82 N ws] (cfg17.heap 82) [(0, ST s'), (1, ST [47]), (2, I64 0), (3, I64 (N - 1 : Nat)), (9, .hs 0 0 N N 1), (10, I64 (i : Nat))] F ∧ ws.length = i ∧ lens ws + s'.length = s.length)
    (fun F => ∃ ws s', Is 66 [cells82 N ws] (cfg17.heap 82) [(0, ST s'), (9, .hs 0 0 N N 1), (10, I64 (ws.length : Nat))] F ∧ ws.length < N ∧ lens ws + s'.length = s.length) ?_ ?_ ?_ ?_
  · exact ⟨[], s, is_of (by kernel_rfl), rfl, by simp [lens]⟩
  · rintro i F hi ⟨ws, s', ⟨t, c, al, rfl⟩, hwl, hsum⟩
    refine aw_assoc (aw_sk 10 (by kernel_rfl) ?_)
    refine aw_sc (decide ((i : Int) < ((N - 1 : Nat) : Int))) (by kernel_rfl) (fun _ => ?_) (fun h => absurd (of_decide_eq_false h) (by omega))
    obtain ⟨m, hm, hmr⟩ := index91 s'
    refine aw_sskip (aw_block (aw_sr (ow_k 2 10 (by kernel_rfl) ?_)))
    refine ow_callG (k := 86) (first := []) (captured := []) (xs := [ST s', ST [47]]) (r := I64 m) (by kernel_rfl) (by kernel_rfl) (by kernel_rfl) (by kernel_rfl) (by kernel_rfl) (by kernel_rfl) hm (by kernel_rfl) (by kernel_rfl) ?_
    refine ow_all 10 (by kernel_rfl) ?_
    refine aw_assoc (aw_sk 10 (by kernel_rfl) ?_)
    refine aw_sc (decide (m < 0)) (by kernel_rfl) (fun h => ?_) (fun h => ?_)
    · refine aw_sexit ?_
      refine ⟨rfl, ws, s', is_at (l' := [(0, ST s'), (9, .hs 0 0 N N 1), (10, I64 (i : Nat))]) (by rw [hwl]) (by kernel_rfl), by omega, hsum⟩
    have hm0 : 0 ≤ m := by have := of_decide_eq_false h; omega
    have hm1 : m < s'.length := by rcases hmr with h | h <;> omega
    have hsl : s'.length ≤ 1000000 := by omega
    have hwm : IntKind.i64.wrap (m + 0) = m := by rw [wrapI (by omega) (by omega)]; omega
    have hwm1 : IntKind.i64.wrap (m + 1) = m + 1 := wrapI (by omega) (by omega)
    refine aw_sskip (aw_sr (ow_k 6 10 (by kernel_rfl) ?_))
    refine ow_stre (bs := s') (l := 0) (u := IntKind.i64.wrap (m + 0)) (s'.take m.toNat) (by rw [hwm]; simp) (by omega) (by omega) (by omega) (by kernel_rfl) (by kernel_rfl) (by kernel_rfl) (by kernel_rfl) (by kernel_rfl) (by kernel_rfl) ?_
    refine ow_hat (l := 0) (off := 0) (len := N) (cap := N) (sz := 1) (n := (i : Int)) (e := 9) (by omega) (by omega) (by kernel_rfl) (by kernel_rfl) (by kernel_rfl) (by kernel_rfl) (by kernel_rfl) (by kernel_rfl) ?_
    refine ow_hst (l := 0) (off := 0 + (i : Int).toNat * 1) (row := cells82 N ws) (v := ST (s'.take m.toNat)) (by rw [cells_len N ws (by omega)]; simp [AV.cells]; omega) (by kernel_rfl) (by kernel_rfl) (by kernel_rfl) (by kernel_rfl) (by kernel_rfl) (by kernel_rfl) ?_
    refine ow_nil ?_
    refine aw_absE 66 [cells82 N (ws ++ [s'.take m.toNat])] [splice (cells82 N ws) (0 + (i : Int).toNat * 1) [ST (s'.take m.toNat)]] (cfg17.heap 82) [(0, ST s'), (1, ST [47]), (2, I64 0), (3, I64 (N - 1 : Nat)), (9, .hs 0 0 N N 1), (10, I64 (i : Nat)), (11, I64 m)] _ rfl (by
      rw [← cells_set N ws _ (by omega), hwl]; simp) (by kernel_rfl) (fun t3 c3 al3 => ?_)
    refine aw_sr (ow_k 5 10 (by kernel_rfl) ?_)
    refine ow_stre (bs := s') (l := IntKind.i64.wrap (m + 1)) (u := (s'.length : Int)) (s'.drop (m.toNat + 1)) (by rw [hwm1, show (m + 1).toNat = m.toNat + 1 by omega]; exact List.take_of_length_le (by rw [List.length_drop]; omega)) (by omega) (by omega) (by omega) (by kernel_rfl) (by kernel_rfl) (by kernel_rfl) (by kernel_rfl) (by kernel_rfl) (by kernel_rfl) ?_
    refine ow_all 10 (by kernel_rfl) ?_
    refine aw_rk 10 (by kernel_rfl) ?_
    refine ⟨ws ++ [s'.take m.toNat], s'.drop (m.toNat + 1), is_at (l' := [(0, ST (s'.drop (m.toNat + 1))), (1, ST [47]), (2, I64 0), (3, I64 (N - 1 : Nat)), (9, .hs 0 0 N N 1), (10, I64 (IntKind.i64.wrap ((i : Int) + 1)))]) (by rw [succ64 (by omega)]) (by kernel_rfl), by simp [hwl], ?_⟩
    rw [lens_snoc, List.length_take, List.length_drop]
    omega
  · rintro F ⟨ws, s', ⟨t, c, al, rfl⟩, hwl, hsum⟩
    refine aw_assoc (aw_sk 10 (by kernel_rfl) ?_)
    refine aw_sc (decide (((N - 1 : Nat) : Int) < ((N - 1 : Nat) : Int))) (by kernel_rfl) (fun h => absurd (of_decide_eq_true h) (by omega)) (fun _ => ?_)
    refine aw_sexit ?_
    exact ⟨rfl, ws, s', is_at (l' := [(0, ST s'), (9, .hs 0 0 N N 1), (10, I64 (N - 1 : Nat))]) (by rw [hwl]) (by kernel_rfl), by omega, hsum⟩
  · rintro F ⟨ws, s', ⟨t, c, al, rfl⟩, hwl, hsum⟩
    have hw5 : IntKind.i64.wrap ((ws.length : Nat) + 1 : Int) = ((ws.length + 1 : Nat) : Int) := succ64 (by omega)
    refine aw_sr (ow_k 3 10 (by kernel_rfl) ?_)
    refine ow_hat (l := 0) (off := 0) (len := N) (cap := N) (sz := 1) (n := (ws.length : Int)) (e := 9) (by omega) (by omega) (by kernel_rfl) (by kernel_rfl) (by kernel_rfl) (by kernel_rfl) (by kernel_rfl) (by kernel_rfl) ?_
    refine ow_hst (l := 0) (off := 0 + (ws.length : Int).toNat * 1) (row := cells82 N ws) (v := ST s') (by rw [cells_len N ws (by omega)]; simp [AV.cells]; omega) (by kernel_rfl) (by kernel_rfl) (by kernel_rfl) (by kernel_rfl) (by kernel_rfl) (by kernel_rfl) ?_
    refine ow_nil ?_
    refine aw_absE 66 [cells82 N (ws ++ [s'])] [splice (cells82 N ws) (0 + (ws.length : Int).toNat * 1) [ST s']] (cfg17.heap 82) [(9, .hs 0 0 N N 1), (10, I64 (ws.length : Nat))] _ rfl (by
      rw [← cells_set N ws _ (by omega)]; simp) (by kernel_rfl) (fun t3 c3 al3 => ?_)
    refine aw_sr (ow_k 3 10 (by kernel_rfl) ?_)
    refine ow_hsl (loc := 0) (off := 0) (len := N) (cap := N) (sz := 1) (l := 0) (u := IntKind.i64.wrap ((ws.length : Nat) + 1 : Int)) (e := 9) (by omega) (by omega) (by omega) (by omega) (by omega) (by kernel_rfl) (by kernel_rfl) (by kernel_rfl) (by kernel_rfl) (by kernel_rfl) (by kernel_rfl) (by kernel_rfl) ?_
    refine ow_all 10 (by kernel_rfl) ?_
    refine aw_ret ?_
    refine ⟨.inr rfl, [.hs 0 (0 + (0 : Int).toNat * 1) ((IntKind.i64.wrap ((ws.length : Nat) + 1 : Int)).toNat - (0 : Int).toNat) (N - (0 : Int).toNat) 1], [.slice ((ws ++ [s']).map rowS) false .no], by kernel_rfl, ?_, ?_, ?_⟩
    · refine Eq.trans (congrArg (fun H => freezeA H _) (show _ = [cells82 N (ws ++ [s'])] by kernel_rfl)) ?_
      have hlen : (cells82 N (ws ++ [s'])).length = N := cells_len N _ (by simp; omega)
      rw [hw5]
      simp only [freezeA, freeze1A, Int.toNat_zero, Nat.zero_mul, Nat.add_zero, Nat.sub_zero, Int.toNat_natCast, List.getElem?_cons_zero, Option.bind_some]
      rw [if_neg (by omega)]
      simp only [rowsOf, hlen, Nat.zero_add, Nat.mul_one]
      rw [if_pos (by omega)]
      simp only [Option.map_some, Option.bind_some]
      congr 2
      apply congrArg (fun x => AV.slice x false Own.no)
      apply List.ext_getElem
      · simp
      · intro k h1 h2
        simp at h1
        have hk : k < (cells82 N (ws ++ [s'])).length := by omega
        have hg : (cells82 N (ws ++ [s']))[k] = ST ((ws ++ [s'])[k]'(by simp; omega)) := by
          simp only [cells82]
          rw [List.getElem_append_left (by simp; omega), List.getElem_map]
        simp only [List.getElem_map, List.getElem_range, rowS]
        rw [List.drop_eq_getElem_cons hk]
        simp [hg]
    · simp [AV.free, nohp, rowS]
    · refine ⟨ws ++ [s'], by simp, by rw [lens_snoc]; omega, ?_⟩
      rfl
end Go.Proofs.V
namespace Go.Proofs.V
open Go Go.Proofs Go.Proofs.V.Wire
set_option linter.unusedVariables false
set_option linter.unusedSimpArgs false
set_option maxRecDepth 100000
set_option maxHeartbeats 1000000
theorem split79 (s : BS) (hs : s.length ≤ 1000000) : ∃ ws : List BS, ws ≠ [] ∧ lens ws = s.length + 1 ∧ callQ cfg17 (evK cfg17) 79 [ST s, ST [47]] = some (.slice (ws.map rowS) false .no) := by
  obtain ⟨ws, h1, h2, h3⟩ := split82 s hs
  refine ⟨ws, h1, h2, callQ_of (by kernel_rfl) ?_⟩
  replace h3 := callQ_of (show cfg17.ext 82 = none by kernel_rfl) h3
  refine evK_of Tryd.func79 rfl (of_decide_eq_true (by kernel_rfl)) (by kernel_rfl) (by kernel_rfl) rfl ?_
  unfold Tryd.f79
  dsimp only
  refine aw_sk 10 (by kernel_rfl) ?_
  refine aw_sr (ow_k 2 10 (by kernel_rfl) ?_)
  refine ow_callG (k := 82) (first := []) (captured := []) (xs := [ST s, ST [47], I64 0, I64 (-1)]) (r := .slice (ws.map rowS) false .no) (by kernel_rfl) (by kernel_rfl) (by kernel_rfl) (by kernel_rfl) (by kernel_rfl) (by kernel_rfl) h3 (by kernel_rfl) (by kernel_rfl) ?_
  refine ow_all 10 (by kernel_rfl) ?_
  refine aw_ret ?_
  exact ⟨.inr rfl, [.slice (ws.map rowS) false .no], by kernel_rfl, by kernel_rfl, by kernel_rfl, by kernel_rfl⟩
theorem lens_le : ∀ ws : List BS, (∀ w ∈ ws, w.length ≤ 12) → lens ws ≤ 13 * ws.length
  | [], _ => by simp [lens]
  | w :: ws, h => by
    have := lens_le ws (fun v hv => h v (List.mem_cons_of_mem _ hv))
    have := h w List.mem_cons_self
    simp only [lens, List.map_cons, List.sum_cons, List.length_cons] at *
    omega
theorem lens_mem : ∀ (ws : List BS) (w : BS), w ∈ ws → w.length < lens ws
  | [], w, h => by cases h
  | v :: ws, w, h => by
    simp only [lens, List.map_cons, List.sum_cons]
    rcases List.mem_cons.1 h with rfl | h
    · omega
    · have := lens_mem ws w h
      simp only [lens] at this
      omega
def okNames (s : BS) (r : AV) : Prop := ∃ ws nl o, r = .slice (ws.map rowS) nl o ∧ (ws ≠ [] → s.length ≤ 51) ∧ (o = .no ∨ o = .full)
theorem names75 (s : BS) (hs : s.length ≤ 1000000) : ∃ r, callQ cfg17 (evK cfg17) 75 [ST s] = some r ∧ okNames s r := by
  obtain ⟨ws, hne, hlens, hsp⟩ := split79 s hs
  suffices h : ∃ r H', evK cfg17 75 [ST s] [] = some (r, H') ∧ okNames s r ∧ H' = [] by
    obtain ⟨r, H', h, h1, rfl⟩ := h
    exact ⟨r, callQ_of (by kernel_rfl) h, h1⟩
  have hnil : okNames s (.slice [] true .full) := ⟨[], true, .full, rfl, fun h => absurd rfl h, .inr rfl⟩
  refine evK_ofE (P := fun r H' => okNames s r ∧ H' = []) Tryd.func75 rfl (of_decide_eq_true (by kernel_rfl)) (by kernel_rfl) (by kernel_rfl) rfl ?_
  unfold Tryd.f75
  dsimp only
  refine aw_sk 10 (by kernel_rfl) ?_
  refine aw_sr (ow_k 1 10 (by kernel_rfl) ?_)
  refine ow_callG (k := 79) (first := []) (captured := []) (xs := [ST s, ST [47]]) (r := .slice (ws.map rowS) false .no) (by kernel_rfl) (by kernel_rfl) (by kernel_rfl) (by kernel_rfl) (by kernel_rfl) (by kernel_rfl) hsp (by kernel_rfl) (by kernel_rfl) ?_
  refine ow_all 10 (by kernel_rfl) ?_
  refine aw_assoc (aw_sk 10 (by kernel_rfl) ?_)
  refine aw_sc (decide ((4 : Int) < ((ws.map rowS).length : Int))) (by kernel_rfl) (fun h => ?_) (fun h => ?_)
  · refine aw_assoc (aw_sk 10 (by kernel_rfl) ?_)
    refine aw_sret ?_
    exact ⟨.inr rfl, [.slice [] true .full], by kernel_rfl, by kernel_rfl, hnil, by kernel_rfl⟩
  have hl : ws.length ≤ 4 := by
    have := of_decide_eq_false h
    rw [List.length_map] at this
    omega
  refine aw_sskip (aw_assoc (aw_sk 10 (by kernel_rfl) ?_))
  refine aw_sfor ws.length (fun i F => Is 22 [] (cfg17.heap 75) [(3, .slice (ws.map rowS) false .no), (11, .slice (ws.map rowS) false .no), (12, I64 (ws.map rowS).length), (13, I64 (i : Nat))] F ∧ ∀ w ∈ ws.take i, w.length ≤ 12) ?_ ?_ ?_
  · exact ⟨is_of (by kernel_rfl), by simp⟩
  · rintro i F hi ⟨⟨t, c, al, rfl⟩, hpre⟩
    have hwl : ws[i].length ≤ 1000000 := by
      have := lens_mem ws ws[i] (List.getElem_mem hi)
      omega
    obtain ⟨b, hb, hb12⟩ := name80 ws[i] (by omega)
    refine aw_sk 10 (by kernel_rfl) ?_
    refine aw_sc (decide ((i : Int) < ((ws.map rowS).length : Int))) (by kernel_rfl) (fun _ => ?_) (fun h => absurd (of_decide_eq_false h) (by rw [List.length_map]; omega))
    refine aw_sskip (aw_seq (aw_block (aw_sr ?_)))
    refine ow_at (rows := ws.map rowS) (nl := false) (own := .no) (row := rowS ws[i]) (n := i) (e := 9) (row_at _ _ _ hi) (by omega) (by kernel_rfl) (by kernel_rfl) (by kernel_rfl) (by kernel_rfl) (by kernel_rfl) (by kernel_rfl) ?_
    refine ow_all 10 (by kernel_rfl) ?_
    refine aw_sr (ow_k 1 10 (by kernel_rfl) ?_)
    refine ow_callG (k := 80) (first := []) (captured := []) (xs := [ST ws[i]]) (r := BO b) (by kernel_rfl) (by kernel_rfl) (by kernel_rfl) (by kernel_rfl) (by kernel_rfl) (by kernel_rfl) hb (by kernel_rfl) (by kernel_rfl) ?_
    refine ow_all 10 (by kernel_rfl) ?_
    cases b with
    | false =>
      refine aw_cond (t := true) (by kernel_rfl) (fun _ => ?_) (fun h => by cases h)
      refine aw_sk 10 (by kernel_rfl) ?_
      refine aw_ret ?_
      exact ⟨.inr rfl, [.slice [] true .full], by kernel_rfl, by kernel_rfl, hnil, by kernel_rfl⟩
    | true =>
      refine aw_cond (t := false) (by kernel_rfl) (fun h => by cases h) (fun _ => ?_)
      refine aw_skip ?_
      refine aw_rk 10 (by kernel_rfl) ?_
      refine ⟨is_at (l' := [(3, .slice (ws.map rowS) false .no), (11, .slice (ws.map rowS) false .no), (12, I64 (ws.map rowS).length), (13, I64 (IntKind.i64.wrap ((i : Int) + 1)))]) (by rw [succ64 (by omega)]) (by kernel_rfl), ?_⟩
      intro w hw
      rw [List.take_succ_eq_append_getElem hi] at hw
      rcases List.mem_append.1 hw with hw | hw
      · exact hpre w hw
      · simp only [List.mem_singleton] at hw
        rw [hw]
        exact hb12 rfl
  · rintro F ⟨⟨t, c, al, rfl⟩, hpre⟩
    refine aw_sk 10 (by kernel_rfl) ?_
    refine aw_sc (decide ((ws.length : Int) < ((ws.map rowS).length : Int))) (by kernel_rfl) (fun h => absurd (of_decide_eq_true h) (by rw [List.length_map]; omega)) (fun _ => ?_)
    refine aw_sexit ?_
    dsimp only [Then, InBlock, if_true]
    refine aw_sk 10 (by kernel_rfl) ?_
    refine aw_ret ?_
    refine ⟨.inr rfl, [.slice (ws.map rowS) false .no], by kernel_rfl, by kernel_rfl, ⟨ws, false, .no, by kernel_rfl, fun _ => ?_, .inl rfl⟩, by kernel_rfl⟩
    rw [List.take_length] at hpre
    have := lens_le ws hpre
    omega
theorem right58 (s : BS) (hs : s.length ≤ 1000000) : ∃ b, callQ cfg17 (evK cfg17) 58 [ST s] = some (BO b) ∧ (b = true → s.length ≤ 51) := by
  obtain ⟨r, hr, ws, nl, o, rfl, hws, ho⟩ := names75 s hs
  suffices h : ∃ r H', evK cfg17 58 [ST s] [] = some (r, H') ∧ (∃ b, r = BO b ∧ (b = true → s.length ≤ 51)) ∧ H' = [] by
    obtain ⟨r, H', h, ⟨b, rfl, hb⟩, rfl⟩ := h
    exact ⟨b, callQ_of (by kernel_rfl) h, hb⟩
  refine evK_ofE (P := fun r H' => (∃ b, r = BO b ∧ (b = true → s.length ≤ 51)) ∧ H' = []) Tryd.func58 rfl (of_decide_eq_true (by kernel_rfl)) (by kernel_rfl) (by kernel_rfl) rfl ?_
  unfold Tryd.f58
  dsimp only
  refine aw_sk 10 (by kernel_rfl) ?_
  rcases ho with rfl | rfl
  all_goals refine aw_sr (ow_k 1 10 (by kernel_rfl) ?_)
  all_goals refine ow_callG (k := 75) (first := []) (captured := []) (xs := [ST s]) (by kernel_rfl) (by kernel_rfl) (by kernel_rfl) (by kernel_rfl) (by kernel_rfl) (by kernel_rfl) hr (by kernel_rfl) (by kernel_rfl) ?_
  all_goals refine ow_all 10 (by kernel_rfl) ?_
  all_goals refine aw_ret ?_
  all_goals
    refine ⟨.inr rfl, [BO (decide ((0 : Int) < ((ws.map rowS).length : Int)))], by kernel_rfl, by kernel_rfl, ⟨decide ((0 : Int) < ((ws.map rowS).length : Int)), by kernel_rfl, fun h => hws ?_⟩, by kernel_rfl⟩
    intro e
    subst e
    simp at h
theorem bytes_append (a b : BS) : ((⟨⟨a⟩⟩ : ByteArray) ++ ⟨⟨b⟩⟩) = ⟨⟨a ++ b⟩⟩ := by
  apply ByteArray.ext
  rw [ByteArray.data_append]
  simp
/-- Two strings, one behind the other. -/
theorem ow_cat {cfg : Cfg} {F : St} {Q : St → Prop} {draw : Bool} {ds : List Nat} {all : Array Oper} {rest : List Oper} {lab : Nat} {type : TypeId} {pos : String} {after : Array Edge} {g : Option (Nat × Bool)} {d : Nat} {xt yt : TypeId} {x y : Operand} {a b : BS} (hl : a.length + b.length ≤ 1000000000) (hx : F.ev x = ST a) (hy : F.ev y = ST b)
    (hg : guardA all { dst := some d, op := .binOp .add xt x y yt, type, pos, after, guard := g } F = some true) (hd : Nat.blt d F.n = true)
    (h : Ow cfg draw ds all rest (lab + 64) { F with t := upd F.t d (ST (a ++ b)) } Q) : Ow cfg draw ds all ({ dst := some d, op := .binOp .add xt x y yt, type, pos, after, guard := g } :: rest) lab F Q := by
  refine ow_val rfl hg rfl ?_ hd h
  have hn : nilEq cfg.P .add xt (ST a) (ST b) = none := by
    unfold nilEq; cases tel cfg.P xt <;> rfl
  have h1 : (⟨⟨a⟩⟩ : ByteArray).size = a.length := rfl
  have h2 : (⟨⟨b⟩⟩ : ByteArray).size = b.length := rfl
  have h3 : (IntKind.i64.max : Int) = 9223372036854775807 := by decide
  simp only [quiet, hx, hy, hn, binA, AV.val, val1, pr_bind]
  have hgd : pr cfg.P (eqGuard .add xt x y (.string ⟨⟨a⟩⟩) (.string ⟨⟨b⟩⟩)) = some () := rfl
  rw [hgd]
  simp only [Option.bind_some, binOp, Op.stringOp, h1, h2, h3]
  rw [if_neg (by omega)]
  simp only [pr_pure, Option.map_some, bytes_append]
  rfl
theorem prefix77 (s p : BS) (hs : s.length ≤ 1000000000) : ∃ b, callQ cfg17 (evK cfg17) 77 [ST s, ST p] = some (BO b) := by
  have key : ∃ b, callQ cfg17 (evK cfg17) 81 [ST s, ST p] = some (BO b) := by
    suffices h : ∃ r H', evK cfg17 81 [ST s, ST p] [] = some (r, H') ∧ (∃ b, r = BO b) ∧ H' = [] by
      obtain ⟨r, H', h, ⟨b, rfl⟩, rfl⟩ := h
      exact ⟨b, callQ_of (by kernel_rfl) h⟩
    refine evK_ofE (P := fun r H' => (∃ b, r = BO b) ∧ H' = []) Tryd.func81 rfl (of_decide_eq_true (by kernel_rfl)) (by kernel_rfl) (by kernel_rfl) rfl ?_
    unfold Tryd.f81
    dsimp only
    refine aw_sk 10 (by kernel_rfl) ?_
    refine aw_sr (ow_k 4 10 (by kernel_rfl) ?_)
    cases hA : decide ((p.length : Int) ≤ (s.length : Int)) with
    | false =>
      refine ow_is (x := decide ((p.length : Int) ≤ (s.length : Int))) (w := false) hA (by kernel_rfl) (by kernel_rfl) (by kernel_rfl) (by kernel_rfl) (by kernel_rfl) ?_
      refine ow_all 10 (by kernel_rfl) ?_
      refine aw_ret ?_
      exact ⟨.inr rfl, [BO false], by kernel_rfl, by kernel_rfl, ⟨false, by kernel_rfl⟩, by kernel_rfl⟩
    | true =>
      refine ow_is (x := decide ((p.length : Int) ≤ (s.length : Int))) (w := true) hA (by kernel_rfl) (by kernel_rfl) (by kernel_rfl) (by kernel_rfl) (by kernel_rfl) ?_
      have := of_decide_eq_true hA
      refine ow_k 4 10 (by kernel_rfl) ?_
      refine ow_stre (bs := s) (l := 0) (u := (p.length : Int)) (s.take p.length) (by simp) (by omega) (by omega) (by omega) (by kernel_rfl) (by kernel_rfl) (by kernel_rfl) (by kernel_rfl) (by kernel_rfl) (by kernel_rfl) ?_
      refine ow_all 10 (by kernel_rfl) ?_
      refine aw_ret ?_
      exact ⟨.inr rfl, [BO ((⟨⟨s.take p.length⟩⟩ : ByteArray).toList == (⟨⟨p⟩⟩ : ByteArray).toList)], by kernel_rfl, by kernel_rfl, ⟨((⟨⟨s.take p.length⟩⟩ : ByteArray).toList == (⟨⟨p⟩⟩ : ByteArray).toList), by kernel_rfl⟩, by kernel_rfl⟩
  obtain ⟨b, hb⟩ := key
  refine ⟨b, callQ_of (by kernel_rfl) ?_⟩
  refine evK_of Tryd.func77 rfl (of_decide_eq_true (by kernel_rfl)) (by kernel_rfl) (by kernel_rfl) rfl ?_
  unfold Tryd.f77
  dsimp only
  refine aw_sk 10 (by kernel_rfl) ?_
  refine aw_sr (ow_k 2 10 (by kernel_rfl) ?_)
  refine ow_callG (k := 81) (first := []) (captured := []) (xs := [ST s, ST p]) (r := BO b) (by kernel_rfl) (by kernel_rfl) (by kernel_rfl) (by kernel_rfl) (by kernel_rfl) (by kernel_rfl) hb (by kernel_rfl) (by kernel_rfl) ?_
  refine ow_all 10 (by kernel_rfl) ?_
  refine aw_ret ?_
  exact ⟨.inr rfl, [BO b], by kernel_rfl, by kernel_rfl, by kernel_rfl, by kernel_rfl⟩
theorem under64 (s d : BS) (hs : s.length ≤ 1000000) (hd : d.length ≤ 1000000) : ∃ b, callQ cfg17 (evK cfg17) 64 [ST s, ST d] = some (BO b) := by
  obtain ⟨b1, h1, -⟩ := right58 s hs
  obtain ⟨b2, h2, -⟩ := right58 d hd
  obtain ⟨b3, h3⟩ := prefix77 s (d ++ [47]) (by omega)
  suffices h : ∃ r H', evK cfg17 64 [ST s, ST d] [] = some (r, H') ∧ (∃ b, r = BO b) ∧ H' = [] by
    obtain ⟨r, H', h, ⟨b, rfl⟩, rfl⟩ := h
    exact ⟨b, callQ_of (by kernel_rfl) h⟩
  refine evK_ofE (P := fun r H' => (∃ b, r = BO b) ∧ H' = []) Tryd.func64 rfl (of_decide_eq_true (by kernel_rfl)) (by kernel_rfl) (by kernel_rfl) rfl ?_
  unfold Tryd.f64
  dsimp only
  refine aw_sk 10 (by kernel_rfl) ?_
  refine aw_sr (ow_k 1 10 (by kernel_rfl) ?_)
  refine ow_callG (k := 58) (first := []) (captured := []) (xs := [ST s]) (r := BO b1) (by kernel_rfl) (by kernel_rfl) (by kernel_rfl) (by kernel_rfl) (by kernel_rfl) (by kernel_rfl) h1 (by kernel_rfl) (by kernel_rfl) ?_
  cases b1 with
  | false =>
    refine ow_all 10 (by kernel_rfl) ?_
    refine aw_ret ?_
    exact ⟨.inr rfl, [BO false], by kernel_rfl, by kernel_rfl, ⟨false, by kernel_rfl⟩, by kernel_rfl⟩
  | true =>
    refine ow_k 2 10 (by kernel_rfl) ?_
    refine ow_callG (k := 58) (first := []) (captured := []) (xs := [ST d]) (r := BO b2) (by kernel_rfl) (by kernel_rfl) (by kernel_rfl) (by kernel_rfl) (by kernel_rfl) (by kernel_rfl) h2 (by kernel_rfl) (by kernel_rfl) ?_
    cases b2 with
    | false =>
      refine ow_all 10 (by kernel_rfl) ?_
      refine aw_ret ?_
      exact ⟨.inr rfl, [BO false], by kernel_rfl, by kernel_rfl, ⟨false, by kernel_rfl⟩, by kernel_rfl⟩
    | true =>
      refine ow_k 4 10 (by kernel_rfl) ?_
      refine ow_cat (a := d) (b := [47]) (by simp; omega) (by kernel_rfl) (by kernel_rfl) (by kernel_rfl) (by kernel_rfl) ?_
      refine ow_callG (k := 77) (first := []) (captured := []) (xs := [ST s, ST (d ++ [47])]) (r := BO b3) (by kernel_rfl) (by kernel_rfl) (by kernel_rfl) (by kernel_rfl) (by kernel_rfl) (by kernel_rfl) h3 (by kernel_rfl) (by kernel_rfl) ?_
      refine ow_all 10 (by kernel_rfl) ?_
      refine aw_ret ?_
      exact ⟨.inr rfl, [BO b3], by kernel_rfl, by kernel_rfl, ⟨b3, by kernel_rfl⟩, by kernel_rfl⟩
end Go.Proofs.V
