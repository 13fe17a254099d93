/- Numbers in a range: state.within. -/
import Derived.Test.YtdgihbbekacgcaaDoorT10
namespace Go.Proofs.V
open Go Go.Proofs Go.Proofs.V.Wire
set_option linter.unusedVariables false
set_option linter.unusedSimpArgs false
set_option maxRecDepth 100000
set_option maxHeartbeats 1000000
theorem out62 (n most : Int) : ∃ b, callQ cfg17 (evK cfg17) 62 [I64 n, .ref [I64 most] 0] = some (BO b) ∧ (b = true ↔ n < 0 ∨ most < n) := by
  suffices h : ∃ r H', evK cfg17 62 [I64 n, .ref [I64 most] 0] [] = some (r, H') ∧ (∃ b, r = BO b ∧ (b = true ↔ n < 0 ∨ most < n)) ∧ H' = [] by
    obtain ⟨r, H', h, ⟨b, rfl, hb⟩, rfl⟩ := h
    exact ⟨b, callQ_of (by kernel_rfl) h, hb⟩
  refine evK_ofE (P := fun r H' => (∃ b, r = BO b ∧ (b = true ↔ n < 0 ∨ most < n)) ∧ H' = []) Tryd.func62 rfl (of_decide_eq_true (by kernel_rfl)) (by kernel_rfl) (by kernel_rfl) rfl ?_
  unfold Tryd.f62
  dsimp only
  refine aw_sk 10 (by kernel_rfl) ?_
  refine aw_sr (ow_k 1 10 (by kernel_rfl) ?_)
  cases hA : decide (n < 0) with
  | true =>
    refine ow_is (x := decide (n < 0)) (w := true) hA (by kernel_rfl) (by kernel_rfl) (by kernel_rfl) (by kernel_rfl) (by kernel_rfl) ?_
    refine ow_all 10 (by kernel_rfl) ?_
    refine aw_ret ?_
    exact ⟨.inr rfl, [BO true], by kernel_rfl, by kernel_rfl, ⟨true, by kernel_rfl, by have := of_decide_eq_true hA; simp [this]⟩, by kernel_rfl⟩
  | false =>
    refine ow_is (x := decide (n < 0)) (w := false) hA (by kernel_rfl) (by kernel_rfl) (by kernel_rfl) (by kernel_rfl) (by kernel_rfl) ?_
    refine ow_all 10 (by kernel_rfl) ?_
    refine aw_ret ?_
    exact ⟨.inr rfl, [BO (decide (most < n))], by kernel_rfl, by kernel_rfl, ⟨decide (most < n), by kernel_rfl, by have := of_decide_eq_false hA; simp [this]⟩, by kernel_rfl⟩
theorem index76 (ns : List Int) (nl : Bool) (o : Own) (most : Int) {H : List (List AV)} (hl : ns.length ≤ 1000000) : ∃ k : Int, evK cfg17 76 [.slice (ns.map rowN) nl o, .fn (.func 62) [] [.ref [I64 most] 0]] H = some (I64 k, H) ∧ (k < 0 ↔ ∀ n ∈ ns, 0 ≤ n ∧ n ≤ most) := by
  suffices h : ∃ r H', evK cfg17 76 [.slice (ns.map rowN) nl o, .fn (.func 62) [] [.ref [I64 most] 0]] H = some (r, H') ∧ (∃ k : Int, r = I64 k ∧ (k < 0 ↔ ∀ n ∈ ns, 0 ≤ n ∧ n ≤ most)) ∧ H' = H by
    obtain ⟨r, H', h, ⟨k, rfl, hk⟩, rfl⟩ := h
    exact ⟨k, h, hk⟩
  refine evK_ofE (P := fun r H' => (∃ k : Int, r = I64 k ∧ (k < 0 ↔ ∀ n ∈ ns, 0 ≤ n ∧ n ≤ most)) ∧ H' = H) Tryd.func76 rfl (of_decide_eq_true (by kernel_rfl)) (by kernel_rfl) (by kernel_rfl) rfl ?_
  unfold Tryd.f76
  dsimp only
  refine aw_sk 10 (by kernel_rfl) ?_
  refine aw_assoc (aw_sk 10 (by kernel_rfl) ?_)
  refine aw_sfor ns.length (fun i F => Is 19 H (cfg17.heap 76) [(0, .slice (ns.map rowN) nl o), (1, .fn (.func 62) [] [.ref [I64 most] 0]), (6, .slice (ns.map rowN) nl o), (7, I64 (ns.map rowN).length), (8, I64 (i : Nat))] F ∧ ∀ n ∈ ns.take i, 0 ≤ n ∧ n ≤ most) ?_ ?_ ?_
  · exact ⟨is_of (by kernel_rfl), by simp⟩
  · rintro i F hi ⟨⟨t, c, al, rfl⟩, hpre⟩
    obtain ⟨b, hb, hbi⟩ := out62 ns[i] most
    refine aw_sk 10 (by kernel_rfl) ?_
    refine aw_sc (decide ((i : Int) < ((ns.map rowN).length : Int))) (by kernel_rfl) (fun _ => ?_) (fun h => absurd (of_decide_eq_false h) (by rw [List.length_map]; omega))
    refine aw_sskip (aw_seq (aw_block (aw_sk 10 (by kernel_rfl) ?_)))
    refine aw_sr (ow_k 3 10 (by kernel_rfl) ?_)
    refine ow_at (rows := ns.map rowN) (nl := nl) (own := o) (row := rowN ns[i]) (n := i) (e := 3) (row_at _ _ _ hi) (by omega) (by kernel_rfl) (by kernel_rfl) (by kernel_rfl) (by kernel_rfl) (by kernel_rfl) (by kernel_rfl) ?_
    refine ow_k 1 10 (by kernel_rfl) ?_
    refine ow_callN (k := 62) (first := []) (captured := [.ref [I64 most] 0]) (xs := [I64 ns[i], .ref [I64 most] 0]) (r := BO b) (by kernel_rfl) hb (by kernel_rfl) (by kernel_rfl) (by kernel_rfl) (by kernel_rfl) (by kernel_rfl) (by kernel_rfl) (by kernel_rfl) ?_
    refine ow_nil ?_
    cases b with
    | true =>
      refine aw_cond (t := true) (by kernel_rfl) (fun _ => ?_) (fun h => by cases h)
      refine aw_sk 10 (by kernel_rfl) ?_
      refine aw_ret ?_
      refine ⟨.inr rfl, [I64 (i : Nat)], by kernel_rfl, by kernel_rfl, ⟨(i : Nat), by kernel_rfl, fun h => by omega, fun h => ?_⟩, by kernel_rfl⟩
      have h1 := h ns[i] (List.getElem_mem hi)
      have h2 := hbi.1 rfl
      omega
    | false =>
      refine aw_cond (t := false) (by kernel_rfl) (fun h => by cases h) (fun _ => ?_)
      refine aw_skip ?_
      refine aw_rk 10 (by kernel_rfl) ?_
      refine ⟨is_at (l' := [(0, .slice (ns.map rowN) nl o), (1, .fn (.func 62) [] [.ref [I64 most] 0]), (6, .slice (ns.map rowN) nl o), (7, I64 (ns.map rowN).length), (8, I64 (IntKind.i64.wrap ((i : Int) + 1)))]) (by rw [succ64 (by omega)]) (by kernel_rfl), mem_take_next hi hpre ?_⟩
      have h2 : ¬ (ns[i] < 0 ∨ most < ns[i]) := fun h => by have := hbi.2 h; cases this
      omega
  · rintro F ⟨⟨t, c, al, rfl⟩, hpre⟩
    rw [List.take_length] at hpre
    refine aw_sk 10 (by kernel_rfl) ?_
    refine aw_sc (decide ((ns.length : Int) < ((ns.map rowN).length : Int))) (by kernel_rfl) (fun h => absurd (of_decide_eq_true h) (by rw [List.length_map]; omega)) (fun _ => ?_)
    refine aw_sexit ?_
    dsimp only [Then, InBlock, if_true]
    refine aw_sk 10 (by kernel_rfl) ?_
    refine aw_ret ?_
    exact ⟨.inr rfl, [I64 (-1)], by kernel_rfl, by kernel_rfl, ⟨-1, by kernel_rfl, fun _ => hpre, fun _ => by decide⟩, by kernel_rfl⟩
theorem contains61 (ns : List Int) (nl : Bool) (o : Own) (most : Int) {H : List (List AV)} (hl : ns.length ≤ 1000000) (ho : strip (.slice (ns.map rowN) nl o) = .slice (ns.map rowN) nl o) : ∃ b, evK cfg17 61 [.slice (ns.map rowN) nl o, .fn (.func 62) [] [.ref [I64 most] 0]] H = some (BO b, H) ∧ (b = false ↔ ∀ n ∈ ns, 0 ≤ n ∧ n ≤ most) := by
  obtain ⟨k, hk, hki⟩ := index76 ns nl o most hl
  refine ⟨decide (0 ≤ k), ?_, by rw [← hki]; simp⟩
  have hcl : evK cfg17 76 ([.slice (ns.map rowN) nl o, .fn (.func 62) [] [.ref [I64 most] 0]].map strip) H = some (I64 k, H) := by
    simp only [List.map_cons, List.map_nil, ho]
    exact hk
  refine evK_of Tryd.func61 rfl (of_decide_eq_true (by kernel_rfl)) (by kernel_rfl) (by kernel_rfl) rfl ?_
  unfold Tryd.f61
  dsimp only
  refine aw_sk 10 (by kernel_rfl) ?_
  refine aw_sr (ow_k 2 10 (by kernel_rfl) ?_)
  refine ow_callE0 (k := 76) (first := []) (captured := []) (xs := [.slice (ns.map rowN) nl o, .fn (.func 62) [] [.ref [I64 most] 0]]) (r := I64 k) hcl (by kernel_rfl) (by kernel_rfl) (by kernel_rfl) (by kernel_rfl) (by kernel_rfl) (by kernel_rfl) (by kernel_rfl) (by kernel_rfl) ?_
  refine ow_all 10 (by kernel_rfl) ?_
  refine aw_ret ?_
  exact ⟨.inr rfl, [BO (decide (0 ≤ k))], by kernel_rfl, by kernel_rfl, by kernel_rfl, by kernel_rfl⟩
theorem within19 (ns : List Int) (nl : Bool) (o : Own) (most : Int) {H : List (List AV)} (hl : ns.length ≤ 1000000) (ho : strip (.slice (ns.map rowN) nl o) = .slice (ns.map rowN) nl o) : ∃ b, evK cfg17 19 [I64 most, .slice (ns.map rowN) nl o] H = some (BO b, H) ∧ (b = true ↔ ∀ n ∈ ns, 0 ≤ n ∧ n ≤ most) := by
  obtain ⟨b, hb, hbi⟩ := contains61 ns nl o most hl ho
  refine ⟨!b, ?_, by rw [← hbi]; simp⟩
  have hcl : evK cfg17 61 ([.slice (ns.map rowN) nl o, .fn (.func 62) [] [.ref [I64 most] 0]].map strip) H = some (BO b, H) := by
    simp only [List.map_cons, List.map_nil, ho]
    exact hb
  refine evK_of Tryd.func19 rfl (of_decide_eq_true (by kernel_rfl)) (by kernel_rfl) (by kernel_rfl) rfl ?_
  unfold Tryd.f19
  dsimp only
  refine aw_sk 10 (by kernel_rfl) ?_
  refine aw_sr (ow_k 2 10 (by kernel_rfl) ?_)
  refine ow_callE0 (k := 61) (first := []) (captured := []) (xs := [.slice (ns.map rowN) nl o, .fn (.func 62) [] [.ref [I64 most] 0]]) (r := BO b) hcl (by kernel_rfl) (by kernel_rfl) (by kernel_rfl) (by kernel_rfl) (by kernel_rfl) (by kernel_rfl) (by kernel_rfl) (by kernel_rfl) ?_
  refine ow_all 10 (by kernel_rfl) ?_
  refine aw_ret ?_
  exact ⟨.inr rfl, [BO !b], by kernel_rfl, by kernel_rfl, by kernel_rfl, by kernel_rfl⟩
end Go.Proofs.V
namespace Go.Proofs.V
open Go Go.Proofs Go.Proofs.V.Wire
set_option linter.unusedVariables false
set_option linter.unusedSimpArgs false
set_option maxRecDepth 100000
set_option maxHeartbeats 1000000
theorem under63 (x f : Fi) (hx : x.1.length ≤ 1000000) (hf : f.1.length ≤ 1000000) : ∃ b, callQ cfg17 (evK cfg17) 63 [.agg (rowFi x), .ref (rowFi f) 0] = some (BO b) := by
  obtain ⟨b, hb⟩ := under64 f.1 x.1 hf hx
  refine ⟨b, callQ_of (by kernel_rfl) ?_⟩
  refine evK_of Tryd.func63 rfl (of_decide_eq_true (by kernel_rfl)) (by kernel_rfl) (by kernel_rfl) rfl ?_
  unfold Tryd.f63
  dsimp only
  refine aw_sk 10 (by kernel_rfl) ?_
  refine aw_sr (ow_k 4 10 (by kernel_rfl) ?_)
  refine ow_callG (k := 64) (first := []) (captured := []) (xs := [ST f.1, ST x.1]) (r := BO b) (by kernel_rfl) (by kernel_rfl) (by kernel_rfl) (by kernel_rfl) (by kernel_rfl) (by kernel_rfl) hb (by kernel_rfl) (by kernel_rfl) ?_
  refine ow_all 10 (by kernel_rfl) ?_
  refine aw_ret ?_
  exact ⟨.inr rfl, [BO b], by kernel_rfl, by kernel_rfl, by kernel_rfl, by kernel_rfl⟩
theorem index78 (l : List Fi) (nl : Bool) (o : Own) (f : Fi) (hl : l.length ≤ 1000000) (hx : ∀ x ∈ l, x.1.length ≤ 1000000) (hf : f.1.length ≤ 1000000) : ∃ k : Int, callQ cfg17 (evK cfg17) 78 [.slice (l.map rowFi) nl o, .fn (.func 63) [] [.ref (rowFi f) 0]] = some (I64 k) := by
  suffices h : ∃ r H', evK cfg17 78 [.slice (l.map rowFi) nl o, .fn (.func 63) [] [.ref (rowFi f) 0]] [] = some (r, H') ∧ (∃ k : Int, r = I64 k) ∧ H' = [] by
    obtain ⟨r, H', h, ⟨k, rfl⟩, rfl⟩ := h
    exact ⟨k, callQ_of (by kernel_rfl) h⟩
  refine evK_ofE (P := fun r H' => (∃ k : Int, r = I64 k) ∧ H' = []) Tryd.func78 rfl (of_decide_eq_true (by kernel_rfl)) (by kernel_rfl) (by kernel_rfl) rfl ?_
  unfold Tryd.f78
  dsimp only
  refine aw_sk 10 (by kernel_rfl) ?_
  refine aw_assoc (aw_sk 10 (by kernel_rfl) ?_)
  refine aw_sfor l.length (fun i F => Is 19 [] (cfg17.heap 78) [(0, .slice (l.map rowFi) nl o), (1, .fn (.func 63) [] [.ref (rowFi f) 0]), (6, .slice (l.map rowFi) nl o), (7, I64 (l.map rowFi).length), (8, I64 (i : Nat))] F) ?_ ?_ ?_
  · exact is_of (by kernel_rfl)
  · rintro i F hi ⟨t, c, al, rfl⟩
    obtain ⟨b, hb⟩ := under63 l[i] f (hx _ (List.getElem_mem hi)) hf
    refine aw_sk 10 (by kernel_rfl) ?_
    refine aw_sc (decide ((i : Int) < ((l.map rowFi).length : Int))) (by kernel_rfl) (fun _ => ?_) (fun h => absurd (of_decide_eq_false h) (by rw [List.length_map]; omega))
    refine aw_sskip (aw_seq (aw_block (aw_sk 10 (by kernel_rfl) ?_)))
    refine aw_sr (ow_k 3 10 (by kernel_rfl) ?_)
    refine ow_at (rows := l.map rowFi) (nl := nl) (own := o) (row := rowFi l[i]) (n := i) (e := 57) (row_at _ _ _ hi) (by omega) (by kernel_rfl) (by kernel_rfl) (by kernel_rfl) (by kernel_rfl) (by kernel_rfl) (by kernel_rfl) ?_
    refine ow_k 1 10 (by kernel_rfl) ?_
    refine ow_callG (k := 63) (first := []) (captured := [.ref (rowFi f) 0]) (xs := [.agg (rowFi l[i]), .ref (rowFi f) 0]) (r := BO b) (by kernel_rfl) (by kernel_rfl) (by kernel_rfl) (by kernel_rfl) (by kernel_rfl) (by kernel_rfl) hb (by kernel_rfl) (by kernel_rfl) ?_
    refine ow_nil ?_
    refine aw_cond (t := b) (by kernel_rfl) (fun _ => ?_) (fun _ => ?_)
    · refine aw_sk 10 (by kernel_rfl) ?_
      refine aw_ret ?_
      exact ⟨.inr rfl, [I64 (i : Nat)], by kernel_rfl, by kernel_rfl, ⟨(i : Nat), by kernel_rfl⟩, by kernel_rfl⟩
    · refine aw_skip ?_
      refine aw_rk 10 (by kernel_rfl) ?_
      exact is_at (l' := [(0, .slice (l.map rowFi) nl o), (1, .fn (.func 63) [] [.ref (rowFi f) 0]), (6, .slice (l.map rowFi) nl o), (7, I64 (l.map rowFi).length), (8, I64 (IntKind.i64.wrap ((i : Int) + 1)))]) (by rw [succ64 (by omega)]) (by kernel_rfl)
  · rintro F ⟨t, c, al, rfl⟩
    refine aw_sk 10 (by kernel_rfl) ?_
    refine aw_sc (decide ((l.length : Int) < ((l.map rowFi).length : Int))) (by kernel_rfl) (fun h => absurd (of_decide_eq_true h) (by rw [List.length_map]; omega)) (fun _ => ?_)
    refine aw_sexit ?_
    dsimp only [Then, InBlock, if_true]
    refine aw_sk 10 (by kernel_rfl) ?_
    refine aw_ret ?_
    exact ⟨.inr rfl, [I64 (-1)], by kernel_rfl, by kernel_rfl, ⟨-1, by kernel_rfl⟩, by kernel_rfl⟩
theorem contains65 (l : List Fi) (nl : Bool) (o : Own) (f : Fi) (hl : l.length ≤ 1000000) (hx : ∀ x ∈ l, x.1.length ≤ 1000000) (hf : f.1.length ≤ 1000000) (ho : strip (.slice (l.map rowFi) nl o) = .slice (l.map rowFi) nl o) : ∃ b, callQ cfg17 (evK cfg17) 65 [.slice (l.map rowFi) nl o, .fn (.func 63) [] [.ref (rowFi f) 0]] = some (BO b) := by
  obtain ⟨k, hk⟩ := index78 l nl o f hl hx hf
  refine ⟨decide (0 ≤ k), callQ_of (by kernel_rfl) ?_⟩
  have hcl : callQ cfg17 (evK cfg17) 78 ([.slice (l.map rowFi) nl o, .fn (.func 63) [] [.ref (rowFi f) 0]].map strip) = some (I64 k) := by
    simp only [List.map_cons, List.map_nil, ho]
    exact hk
  refine evK_of Tryd.func65 rfl (of_decide_eq_true (by kernel_rfl)) (by kernel_rfl) (by kernel_rfl) rfl ?_
  unfold Tryd.f65
  dsimp only
  refine aw_sk 10 (by kernel_rfl) ?_
  refine aw_sr (ow_k 2 10 (by kernel_rfl) ?_)
  refine ow_callG (k := 78) (first := []) (captured := []) (xs := [.slice (l.map rowFi) nl o, .fn (.func 63) [] [.ref (rowFi f) 0]]) (r := I64 k) (by kernel_rfl) (by kernel_rfl) (by kernel_rfl) (by kernel_rfl) (by kernel_rfl) (by kernel_rfl) hcl (by kernel_rfl) (by kernel_rfl) ?_
  refine ow_all 10 (by kernel_rfl) ?_
  refine aw_ret ?_
  exact ⟨.inr rfl, [BO (decide (0 ≤ k))], by kernel_rfl, by kernel_rfl, by kernel_rfl, by kernel_rfl⟩
theorem pred64 {i : Nat} (h0 : 0 < i) (h : i < 4611686018427387904) : IntKind.i64.wrap ((i : Int) - 1) = ((i - 1 : Nat) : Int) := by
  rw [wrapI (by omega) (by omega)]; omega
theorem row_atp {α : Type} (f : α → List AV) (l : List α) (i : Nat) (h0 : 0 < i) (h : i < l.length) (hb : i < 4611686018427387904) : (l.map f)[(IntKind.i64.wrap ((i : Int) - 1)).toNat]? = some (f (l[i - 1]'(by omega))) := by
  rw [pred64 h0 hb]
  exact row_at f l (i - 1) (by omega)
def okTree (l : List Fi) : Prop := l.length ≤ 16 ∧ ∀ x ∈ l, x.1.length ≤ 51 ∧ x.2.length ≤ 600
theorem tree20 (l : List Fi) (nl : Bool) (o : Own) (hx : ∀ x ∈ l, x.1.length ≤ 1000000) (ho : strip (.slice (l.map rowFi) nl o) = .slice (l.map rowFi) nl o) : ∃ b, callQ cfg17 (evK cfg17) 20 [.slice (l.map rowFi) nl o] = some (BO b) ∧ (b = true → okTree l) := by
  suffices h : ∃ r H', evK cfg17 20 [.slice (l.map rowFi) nl o] [] = some (r, H') ∧ (∃ b, r = BO b ∧ (b = true → okTree l)) ∧ H' = [] by
    obtain ⟨r, H', h, ⟨b, rfl, hb⟩, rfl⟩ := h
    exact ⟨b, callQ_of (by kernel_rfl) h, hb⟩
  refine evK_ofE (P := fun r H' => (∃ b, r = BO b ∧ (b = true → okTree l)) ∧ H' = []) Tryd.func20 rfl (of_decide_eq_true (by kernel_rfl)) (by kernel_rfl) (by kernel_rfl) rfl ?_
  unfold Tryd.f20
  dsimp only
  refine aw_sk 10 (by kernel_rfl) ?_
  refine aw_assoc (aw_sk 10 (by kernel_rfl) ?_)
  refine aw_sc (decide ((16 : Int) < ((l.map rowFi).length : Int))) (by kernel_rfl) (fun h => ?_) (fun h => ?_)
  · refine aw_assoc (aw_sk 10 (by kernel_rfl) ?_)
    refine aw_sret ?_
    exact ⟨.inr rfl, [BO false], by kernel_rfl, by kernel_rfl, ⟨false, by kernel_rfl, fun h => by cases h⟩, by kernel_rfl⟩
  have hl : l.length ≤ 16 := by
    have := of_decide_eq_false h
    rw [List.length_map] at this
    omega
  refine aw_sskip (aw_assoc (aw_sk 10 (by kernel_rfl) ?_))
  refine aw_sfor l.length (fun i F => Is 48 [] (cfg17.heap 20) [(0, .slice (l.map rowFi) nl o), (9, .slice (l.map rowFi) nl o), (10, I64 (l.map rowFi).length), (11, I64 (i : Nat))] F ∧ ∀ x ∈ l.take i, x.1.length ≤ 51 ∧ x.2.length ≤ 600) ?_ ?_ ?_
  · exact ⟨is_of (by kernel_rfl), by simp⟩
  · rintro i F hi ⟨⟨t, c, al, rfl⟩, hpre⟩
    have hi64 : i < 4611686018427387904 := by omega
    obtain ⟨b1, h1, g1⟩ := right58 l[i].1 (hx _ (List.getElem_mem hi))
    obtain ⟨b2, h2⟩ := contains65 l nl o l[i] (by omega) hx (hx _ (List.getElem_mem hi)) ho
    have h2' : callQ cfg17 (evK cfg17) 65 ([.slice (l.map rowFi) nl o, .fn (.func 63) [] [.ref (rowFi l[i]) 0]].map strip) = some (BO b2) := by
      simp only [List.map_cons, List.map_nil, ho]
      exact h2
    refine aw_sk 10 (by kernel_rfl) ?_
    refine aw_sc (decide ((i : Int) < ((l.map rowFi).length : Int))) (by kernel_rfl) (fun _ => ?_) (fun h => absurd (of_decide_eq_false h) (by rw [List.length_map]; omega))
    refine aw_sskip (aw_seq (aw_block (aw_sr (ow_k 1 10 (by kernel_rfl) ?_))))
    refine ow_at (rows := l.map rowFi) (nl := nl) (own := o) (row := rowFi l[i]) (n := i) (e := 57) (row_at _ _ _ hi) (by omega) (by kernel_rfl) (by kernel_rfl) (by kernel_rfl) (by kernel_rfl) (by kernel_rfl) (by kernel_rfl) ?_
    refine ow_k 3 10 (by kernel_rfl) ?_
    refine ow_st 4 0 [ST [], ST []] (.agg (rowFi l[i])) (by kernel_rfl) (by kernel_rfl) (by kernel_rfl) (by kernel_rfl) (by kernel_rfl) (by kernel_rfl) (by kernel_rfl) ?_
    refine ow_nil ?_
    refine aw_sk 10 (by kernel_rfl) ?_
    refine aw_abs 48 [] (cfg17.heap 20) [(0, .slice (l.map rowFi) nl o), (9, .slice (l.map rowFi) nl o), (10, I64 (l.map rowFi).length), (11, I64 (i : Nat)), (3, I64 (i : Nat)), (4, .ref (rowFi l[i]) 0), (5, .fn (.func 63) [] [.ref (rowFi l[i]) 0])] (by kernel_rfl) (fun t1 c1 al1 => ?_)
    refine aw_mid (IsB 48 [] (cfg17.heap 20) 46 (fun v => v = false → l[i].1.length ≤ 51 ∧ l[i].2.length ≤ 600) [(0, .slice (l.map rowFi) nl o), (9, .slice (l.map rowFi) nl o), (10, I64 (l.map rowFi).length), (11, I64 (i : Nat))]) ?_ ?_
    · refine ow_k 2 10 (by kernel_rfl) ?_
      refine ow_callDG (k := 58) (first := []) (captured := []) (xs := [ST l[i].1]) (r := BO b1) (by kernel_rfl) (by kernel_rfl) (by kernel_rfl) (by kernel_rfl) (by kernel_rfl) (by kernel_rfl) h1 (by kernel_rfl) ?_
      cases b1 with
      | false =>
        refine ow_all 10 (by kernel_rfl) ?_
        exact isB_of true (fun h => by cases h) (by kernel_rfl)
      | true =>
        refine ow_k 5 10 (by kernel_rfl) ?_
        cases hD : decide ((600 : Int) < (l[i].2.length : Int)) with
        | true =>
          refine ow_is (x := decide ((600 : Int) < (l[i].2.length : Int))) (w := true) hD (by kernel_rfl) (by kernel_rfl) (by kernel_rfl) (by kernel_rfl) (by kernel_rfl) ?_
          refine ow_all 10 (by kernel_rfl) ?_
          exact isB_of true (fun h => by cases h) (by kernel_rfl)
        | false =>
          refine ow_is (x := decide ((600 : Int) < (l[i].2.length : Int))) (w := false) hD (by kernel_rfl) (by kernel_rfl) (by kernel_rfl) (by kernel_rfl) (by kernel_rfl) ?_
          refine ow_k 3 10 (by kernel_rfl) ?_
          cases hG : decide ((0 : Int) < (i : Int)) with
          | false =>
            refine ow_is (x := decide ((0 : Int) < (i : Int))) (w := false) hG (by kernel_rfl) (by kernel_rfl) (by kernel_rfl) (by kernel_rfl) (by kernel_rfl) ?_
            refine ow_k 15 10 (by kernel_rfl) ?_
            refine ow_callDG (k := 65) (first := []) (captured := []) (xs := [.slice (l.map rowFi) nl o, .fn (.func 63) [] [.ref (rowFi l[i]) 0]]) (r := BO b2) (by kernel_rfl) (by kernel_rfl) (by kernel_rfl) (by kernel_rfl) (by kernel_rfl) (by kernel_rfl) h2' (by kernel_rfl) ?_
            refine ow_all 10 (by kernel_rfl) ?_
            exact isB_of b2 (fun _ => ⟨g1 rfl, by have := of_decide_eq_false hD; omega⟩) (by kernel_rfl)
          | true =>
            refine ow_is (x := decide ((0 : Int) < (i : Int))) (w := true) hG (by kernel_rfl) (by kernel_rfl) (by kernel_rfl) (by kernel_rfl) (by kernel_rfl) ?_
            have h0i : 0 < i := by have := of_decide_eq_true hG; omega
            refine ow_k 6 10 (by kernel_rfl) ?_
            refine ow_at (rows := l.map rowFi) (nl := nl) (own := o) (row := rowFi (l[i - 1]'(by omega))) (n := IntKind.i64.wrap ((i : Int) - 1)) (e := 57) (row_atp _ _ _ h0i hi hi64) (by rw [pred64 h0i hi64]; omega) (by kernel_rfl) (by kernel_rfl) (by kernel_rfl) (by kernel_rfl) (by kernel_rfl) (by kernel_rfl) ?_
            refine ow_k 2 10 (by kernel_rfl) ?_
            refine ow_any (by kernel_rfl) (by kernel_rfl) (by kernel_rfl) (by kernel_rfl) (by kernel_rfl) (fun w => ?_)
            cases w with
            | true =>
              refine ow_all 10 (by kernel_rfl) ?_
              exact isB_of true (fun h => by cases h) (by kernel_rfl)
            | false =>
              refine ow_k 5 10 (by kernel_rfl) ?_
              refine ow_callDG (k := 65) (first := []) (captured := []) (xs := [.slice (l.map rowFi) nl o, .fn (.func 63) [] [.ref (rowFi l[i]) 0]]) (r := BO b2) (by kernel_rfl) (by kernel_rfl) (by kernel_rfl) (by kernel_rfl) (by kernel_rfl) (by kernel_rfl) h2' (by kernel_rfl) ?_
              refine ow_all 10 (by kernel_rfl) ?_
              exact isB_of b2 (fun _ => ⟨g1 rfl, by have := of_decide_eq_false hD; omega⟩) (by kernel_rfl)
    · rintro F ⟨v, hv, t, c, al, rfl⟩
      refine aw_cond (t := v) (by kernel_rfl) (fun _ => ?_) (fun h => ?_)
      · refine aw_sk 10 (by kernel_rfl) ?_
        refine aw_ret ?_
        exact ⟨.inr rfl, [BO false], by kernel_rfl, by kernel_rfl, ⟨false, by kernel_rfl, fun h => by cases h⟩, by kernel_rfl⟩
      · refine aw_skip ?_
        refine aw_rk 10 (by kernel_rfl) ?_
        exact ⟨is_at (l' := [(0, .slice (l.map rowFi) nl o), (9, .slice (l.map rowFi) nl o), (10, I64 (l.map rowFi).length), (11, I64 (IntKind.i64.wrap ((i : Int) + 1)))]) (by rw [succ64 (by omega)]) (by kernel_rfl), mem_take_next hi hpre (hv h)⟩
  · rintro F ⟨⟨t, c, al, rfl⟩, hpre⟩
    rw [List.take_length] at hpre
    refine aw_sk 10 (by kernel_rfl) ?_
    refine aw_sc (decide ((l.length : Int) < ((l.map rowFi).length : Int))) (by kernel_rfl) (fun h => absurd (of_decide_eq_true h) (by rw [List.length_map]; omega)) (fun _ => ?_)
    refine aw_sexit ?_
    dsimp only [Then, InBlock, if_true]
    refine aw_sk 10 (by kernel_rfl) ?_
    refine aw_ret ?_
    exact ⟨.inr rfl, [BO true], by kernel_rfl, by kernel_rfl, ⟨true, by kernel_rfl, fun _ => ⟨hl, hpre⟩⟩, by kernel_rfl⟩
end Go.Proofs.V
namespace Go.Proofs.V
open Go Go.Proofs Go.Proofs.V.Wire
set_option linter.unusedVariables false
set_option linter.unusedSimpArgs false
set_option maxRecDepth 100000
set_option maxHeartbeats 1000000
def mn (x y : Int) : Int := if y < x then y else x
def mx (x y : Int) : Int := if y > x then y else x
theorem clock59 (l r : Int) : ∃ b, callQ cfg17 (evK cfg17) 59 [.agg [I64 l, I64 r]] = some (BO b) ∧ (b = true → 0 ≤ l ∧ l ≤ 1073741824 ∧ 0 ≤ r ∧ r ≤ 1073741824) := by
  suffices h : ∃ q H', evK cfg17 59 [.agg [I64 l, I64 r]] [] = some (q, H') ∧ (∃ b, q = BO b ∧ (b = true → 0 ≤ l ∧ l ≤ 1073741824 ∧ 0 ≤ r ∧ r ≤ 1073741824)) ∧ H' = [] by
    obtain ⟨q, H', h, ⟨b, rfl, hb⟩, rfl⟩ := h
    exact ⟨b, callQ_of (by kernel_rfl) h, hb⟩
  refine evK_ofE (P := fun q H' => (∃ b, q = BO b ∧ (b = true → 0 ≤ l ∧ l ≤ 1073741824 ∧ 0 ≤ r ∧ r ≤ 1073741824)) ∧ H' = []) Tryd.func59 rfl (of_decide_eq_true (by kernel_rfl)) (by kernel_rfl) (by kernel_rfl) rfl ?_
  unfold Tryd.f59
  dsimp only
  refine aw_sk 10 (by kernel_rfl) ?_
  refine aw_sr (ow_k 5 10 (by kernel_rfl) ?_)
  cases hA : decide (0 ≤ mn l r) with
  | false =>
    refine ow_is (x := decide (0 ≤ mn l r)) (w := false) hA (by kernel_rfl) (by kernel_rfl) (by kernel_rfl) (by kernel_rfl) (by kernel_rfl) ?_
    refine ow_all 10 (by kernel_rfl) ?_
    refine aw_ret ?_
    exact ⟨.inr rfl, [BO false], by kernel_rfl, by kernel_rfl, ⟨false, by kernel_rfl, fun h => by cases h⟩, by kernel_rfl⟩
  | true =>
    refine ow_is (x := decide (0 ≤ mn l r)) (w := true) hA (by kernel_rfl) (by kernel_rfl) (by kernel_rfl) (by kernel_rfl) (by kernel_rfl) ?_
    refine ow_all 10 (by kernel_rfl) ?_
    refine aw_ret ?_
    refine ⟨.inr rfl, [BO (decide (mx l r ≤ 1073741824))], by kernel_rfl, by kernel_rfl, ⟨decide (mx l r ≤ 1073741824), by kernel_rfl, fun h => ?_⟩, by kernel_rfl⟩
    have h1 := of_decide_eq_true hA
    have h2 := of_decide_eq_true h
    unfold mn at h1
    unfold mx at h2
    split at h1 <;> split at h2 <;> omega
def filesOf : List En → List Fi
  | [] => []
  | e :: l => if e.2.1 then (e.1, e.2.2.1) :: filesOf l else filesOf l
theorem filesOf_append : ∀ a b : List En, filesOf (a ++ b) = filesOf a ++ filesOf b
  | [], b => rfl
  | e :: a, b => by
    simp only [List.cons_append, filesOf, filesOf_append a b]
    split <;> rfl
theorem filesOf_len : ∀ a : List En, (filesOf a).length ≤ a.length
  | [] => by simp [filesOf]
  | e :: a => by
    have := filesOf_len a
    simp only [filesOf]
    split <;> simp <;> omega
theorem filesOf_mem : ∀ (l : List En) (x : Fi), x ∈ filesOf l ↔ ∃ e ∈ l, e.2.1 = true ∧ x = (e.1, e.2.2.1)
  | [], x => by simp [filesOf]
  | e :: l, x => by
    have ih := filesOf_mem l x
    simp only [filesOf]
    split
    · rename_i h
      simp only [List.mem_cons, ih]
      constructor
      · rintro (rfl | ⟨e', h1, h2⟩)
        · exact ⟨e, .inl rfl, h, rfl⟩
        · exact ⟨e', .inr h1, h2⟩
      · rintro ⟨e', rfl | h1, h2⟩
        · exact .inl h2.2
        · exact .inr ⟨e', h1, h2⟩
    · rename_i h
      rw [ih]
      constructor
      · rintro ⟨e', h1, h2⟩
        exact ⟨e', List.mem_cons_of_mem _ h1, h2⟩
      · rintro ⟨e', h1, h2⟩
        rcases List.mem_cons.1 h1 with rfl | h1
        · exact absurd h2.1 h
        · exact ⟨e', h1, h2⟩
theorem rowFi_all (l : List Fi) : ∀ r ∈ l.map rowFi, r.length = 2 := by
  intro r h
  obtain ⟨x, _, rfl⟩ := List.mem_map.1 h
  rfl
theorem files60 (l : List En) (nl : Bool) (o : Own) (hl : l.length ≤ 1000000) : ∃ nl' o', callQ cfg17 (evK cfg17) 60 [.slice (l.map rowEn) nl o] = some (.slice ((filesOf l).map rowFi) nl' o') ∧ (o' = .full ∨ o' = .fresh) := by
  suffices h : ∃ r H', evK cfg17 60 [.slice (l.map rowEn) nl o] [] = some (r, H') ∧ (∃ nl' o', r = .slice ((filesOf l).map rowFi) nl' o' ∧ (o' = .full ∨ o' = .fresh)) ∧ H' = [] by
    obtain ⟨r, H', h, ⟨nl', o', rfl, ho⟩, rfl⟩ := h
    exact ⟨nl', o', callQ_of (by kernel_rfl) h, ho⟩
  refine evK_ofE (P := fun r H' => (∃ nl' o', r = .slice ((filesOf l).map rowFi) nl' o' ∧ (o' = .full ∨ o' = .fresh)) ∧ H' = []) Tryd.func60 rfl (of_decide_eq_true (by kernel_rfl)) (by kernel_rfl) (by kernel_rfl) rfl ?_
  unfold Tryd.f60
  dsimp only
  refine aw_sk 10 (by kernel_rfl) ?_
  refine aw_sk 10 (by kernel_rfl) ?_
  refine aw_assoc (aw_sk 10 (by kernel_rfl) ?_)
  refine aw_sfor l.length (fun i F => IsF 24 [] (cfg17.heap 60) 3 ((filesOf (l.take i)).map rowFi) [(6, .slice (l.map rowEn) nl o), (7, I64 (l.map rowEn).length), (8, I64 (i : Nat))] F) ?_ ?_ ?_
  · exact isF_of (rows' := []) (o := .full) (nl := true) (by kernel_rfl) (by simp [filesOf]) fresh_full
  · rintro i F hi ⟨t, c, al, o3, nl3, rfl, hf⟩
    refine aw_sk 10 (by kernel_rfl) ?_
    refine aw_sc (decide ((i : Int) < ((l.map rowEn).length : Int))) (by kernel_rfl) (fun _ => ?_) (fun h => absurd (of_decide_eq_false h) (by rw [List.length_map]; omega))
    refine aw_sskip (aw_seq (aw_block (aw_sr ?_)))
    refine ow_at (rows := l.map rowEn) (nl := nl) (own := o) (row := rowEn l[i]) (n := i) (e := 63) (row_at _ _ _ hi) (by omega) (by kernel_rfl) (by kernel_rfl) (by kernel_rfl) (by kernel_rfl) (by kernel_rfl) (by kernel_rfl) ?_
    refine ow_k 2 10 (by kernel_rfl) ?_
    refine ow_st 5 0 [ST [], BO false, ST [], I64 0, I64 0] (.agg (rowEn l[i])) (by kernel_rfl) (by kernel_rfl) (by kernel_rfl) (by kernel_rfl) (by kernel_rfl) (by kernel_rfl) (by kernel_rfl) ?_
    refine ow_nil ?_
    have hsnoc : filesOf (l.take (i + 1)) = filesOf (l.take i) ++ filesOf [l[i]] := by
      rw [List.take_succ_eq_append_getElem hi, filesOf_append]
    cases hh : l[i].2.1 with
    | true =>
      have hx : filesOf [l[i]] = [(l[i].1, l[i].2.2.1)] := by simp [filesOf, hh]
      refine aw_sr (ow_k 1 10 (by kernel_rfl) ?_)
      refine ow_ld 5 1 (rowEn l[i]) (BO true) (by kernel_rfl) (by kernel_rfl) (by kernel_rfl) (Eq.trans (by kernel_rfl) (congrArg (fun b => some (BO b)) hh)) (by kernel_rfl) (by kernel_rfl) ?_
      refine ow_nil ?_
      refine aw_cond (t := true) (by kernel_rfl) (fun _ => ?_) (fun h => by cases h)
      refine aw_region (ow_k 2 10 (by kernel_rfl) ?_)
      refine ow_ld 5 0 (rowEn l[i]) (ST l[i].1) (by kernel_rfl) (by kernel_rfl) (by kernel_rfl) (by kernel_rfl) (by kernel_rfl) (by kernel_rfl) ?_
      refine ow_k 1 10 (by kernel_rfl) ?_
      refine ow_ld 5 2 (rowEn l[i]) (ST l[i].2.2.1) (by kernel_rfl) (by kernel_rfl) (by kernel_rfl) (by kernel_rfl) (by kernel_rfl) (by kernel_rfl) ?_
      refine ow_k 2 10 (by kernel_rfl) ?_
      refine ow_app (rows := (filesOf (l.take i)).map rowFi) (ys := [rowFi (l[i].1, l[i].2.2.1)]) (own := o3) (nl := nl3) (X := .slice [rowFi (l[i].1, l[i].2.2.1)] false .full) (ty := 22) (e := 57) (sz := 2) (by_ := 32) (z := [ST [], ST []]) (freshE (al' := al) (by kernel_rfl) hf) (by simp) (rowFi_all _) (by simp [rowFi]) (by
        have := filesOf_len (l.take i)
        rw [List.length_take] at this
        simp only [List.length_map, List.length_cons, List.length_nil]
        omega) (by kernel_rfl) (by kernel_rfl) (by kernel_rfl) (by kernel_rfl) (by kernel_rfl) (by kernel_rfl) (by kernel_rfl) (by kernel_rfl) rfl rfl rfl (by kernel_rfl) (by kernel_rfl) (fun al' ha => ?_)
      refine ow_all 10 (by kernel_rfl) ?_
      refine aw_rk 10 (by kernel_rfl) ?_
      refine isF_at (l' := [(6, .slice (l.map rowEn) nl o), (7, I64 (l.map rowEn).length), (8, I64 (IntKind.i64.wrap ((i : Int) + 1)))]) (rows' := (filesOf (l.take i)).map rowFi ++ [rowFi (l[i].1, l[i].2.2.1)]) (nl := false) (o := .id (c + 64 * 1 + 64 * 4 + 64 * 2 + 64 * 7)) (by rw [succ64 (by omega)]) (by kernel_rfl) (by rw [hsnoc, hx, List.map_append]; rfl) (freshE_id (al' := al') (by kernel_rfl) ha)
    | false =>
      have hx : filesOf [l[i]] = [] := by simp [filesOf, hh]
      refine aw_sr (ow_k 1 10 (by kernel_rfl) ?_)
      refine ow_ld 5 1 (rowEn l[i]) (BO false) (by kernel_rfl) (by kernel_rfl) (by kernel_rfl) (Eq.trans (by kernel_rfl) (congrArg (fun b => some (BO b)) hh)) (by kernel_rfl) (by kernel_rfl) ?_
      refine ow_nil ?_
      refine aw_cond (t := false) (by kernel_rfl) (fun h => by cases h) (fun _ => ?_)
      refine aw_skip ?_
      refine aw_rk 10 (by kernel_rfl) ?_
      refine isF_at (l' := [(6, .slice (l.map rowEn) nl o), (7, I64 (l.map rowEn).length), (8, I64 (IntKind.i64.wrap ((i : Int) + 1)))]) (rows' := (filesOf (l.take i)).map rowFi) (nl := nl3) (o := o3) (by rw [succ64 (by omega)]) (by kernel_rfl) (by rw [hsnoc, hx, List.append_nil]) (freshE (al' := al) (by kernel_rfl) hf)
  · rintro F ⟨t, c, al, o3, nl3, rfl, hf⟩
    rw [List.take_length]
    refine aw_sk 10 (by kernel_rfl) ?_
    refine aw_sc (decide ((l.length : Int) < ((l.map rowEn).length : Int))) (by kernel_rfl) (fun h => absurd (of_decide_eq_true h) (by rw [List.length_map]; omega)) (fun _ => ?_)
    refine aw_sexit ?_
    dsimp only [Then, InBlock, if_true]
    refine aw_sk 10 (by kernel_rfl) ?_
    refine aw_ret ?_
    rcases hf with rfl | ⟨k, rfl, hk⟩
    · exact ⟨.inr rfl, [.slice ((filesOf l).map rowFi) nl3 .full], by kernel_rfl, by kernel_rfl, ⟨nl3, .full, by kernel_rfl, .inl rfl⟩, by kernel_rfl⟩
    · exact ⟨.inr rfl, [.slice ((filesOf l).map rowFi) nl3 (.id k)], by kernel_rfl, by kernel_rfl, ⟨nl3, .fresh, leave_at (al' := al) (by kernel_rfl) hk, .inr rfl⟩, by kernel_rfl⟩
def okArch (l : List En) : Prop := l.length ≤ 32 ∧ ∀ x ∈ l, x.1.length ≤ 51 ∧ x.2.2.1.length ≤ 600 ∧ 0 ≤ x.2.2.2.1 ∧ x.2.2.2.1 ≤ 1073741824 ∧ 0 ≤ x.2.2.2.2 ∧ x.2.2.2.2 ≤ 1073741824
theorem okArch_of {l : List En} (h32 : l.length ≤ 32) (h : ∀ x ∈ l, x.1.length ≤ 51 ∧ (x.2.1 = false → x.2.2.1 = []) ∧ 0 ≤ x.2.2.2.1 ∧ x.2.2.2.1 ≤ 1073741824 ∧ 0 ≤ x.2.2.2.2 ∧ x.2.2.2.2 ≤ 1073741824) (ht : okTree (filesOf l)) : okArch l := by
  refine ⟨h32, fun x hx => ?_⟩
  obtain ⟨h1, h2, h3⟩ := h x hx
  refine ⟨h1, ?_, h3⟩
  cases hh : x.2.1 with
  | true => exact (ht.2 _ ((filesOf_mem l _).2 ⟨x, hx, hh, rfl⟩)).2
  | false => rw [h2 hh]; simp
theorem scan18 (l : List En) (nl : Bool) (o : Own) (hlen : l.length ≤ 1000000) (hx : ∀ x ∈ l, x.1.length ≤ 1000000) (ho : strip (.slice (l.map rowEn) nl o) = .slice (l.map rowEn) nl o) : ∃ b, callQ cfg17 (evK cfg17) 18 [.slice (l.map rowEn) nl o] = some (BO b) ∧ (b = true → okArch l) := by
  suffices h : ∃ r H', evK cfg17 18 [.slice (l.map rowEn) nl o] [] = some (r, H') ∧ (∃ b, r = BO b ∧ (b = true → okArch l)) ∧ H' = [] by
    obtain ⟨r, H', h, ⟨b, rfl, hb⟩, rfl⟩ := h
    exact ⟨b, callQ_of (by kernel_rfl) h, hb⟩
  refine evK_ofE (P := fun r H' => (∃ b, r = BO b ∧ (b = true → okArch l)) ∧ H' = []) Tryd.func18 rfl (of_decide_eq_true (by kernel_rfl)) (by kernel_rfl) (by kernel_rfl) rfl ?_
  unfold Tryd.f18
  dsimp only
  refine aw_sk 10 (by kernel_rfl) ?_
  refine aw_assoc (aw_sk 10 (by kernel_rfl) ?_)
  refine aw_sfor l.length (fun i F => Is 62 [] (cfg17.heap 18) [(0, .slice (l.map rowEn) nl o), (5, .slice (l.map rowEn) nl o), (6, I64 (l.map rowEn).length), (7, I64 (i : Nat))] F ∧ ∀ x ∈ l.take i, x.1.length ≤ 51 ∧ (x.2.1 = false → x.2.2.1 = []) ∧ 0 ≤ x.2.2.2.1 ∧ x.2.2.2.1 ≤ 1073741824 ∧ 0 ≤ x.2.2.2.2 ∧ x.2.2.2.2 ≤ 1073741824) ?_ ?_ ?_
  · exact ⟨is_of (by kernel_rfl), by simp⟩
  · rintro i F hi ⟨⟨t, c, al, rfl⟩, hpre⟩
    have hi64 : i < 4611686018427387904 := by omega
    obtain ⟨b1, h1, g1⟩ := right58 l[i].1 (hx _ (List.getElem_mem hi))
    obtain ⟨b3, h3, g3⟩ := clock59 l[i].2.2.2.1 l[i].2.2.2.2
    refine aw_sk 10 (by kernel_rfl) ?_
    refine aw_sc (decide ((i : Int) < ((l.map rowEn).length : Int))) (by kernel_rfl) (fun _ => ?_) (fun h => absurd (of_decide_eq_false h) (by rw [List.length_map]; omega))
    refine aw_sskip (aw_seq (aw_block (aw_sr (ow_k 1 10 (by kernel_rfl) ?_))))
    refine ow_at (rows := l.map rowEn) (nl := nl) (own := o) (row := rowEn l[i]) (n := i) (e := 63) (row_at _ _ _ hi) (by omega) (by kernel_rfl) (by kernel_rfl) (by kernel_rfl) (by kernel_rfl) (by kernel_rfl) (by kernel_rfl) ?_
    refine ow_k 3 10 (by kernel_rfl) ?_
    refine ow_st 4 0 [ST [], BO false, ST [], I64 0, I64 0] (.agg (rowEn l[i])) (by kernel_rfl) (by kernel_rfl) (by kernel_rfl) (by kernel_rfl) (by kernel_rfl) (by kernel_rfl) (by kernel_rfl) ?_
    refine ow_nil ?_
    refine aw_absB 62 [] (cfg17.heap 18) 4 (rowEn l[i]) [(0, .slice (l.map rowEn) nl o), (5, .slice (l.map rowEn) nl o), (6, I64 (l.map rowEn).length), (7, I64 (i : Nat)), (3, I64 (i : Nat))] (by kernel_rfl) (by kernel_rfl) (fun t1 c1 al1 gn => ?_)
    refine aw_mid (IsB 62 [] (cfg17.heap 18) 52 (fun v => v = false → l[i].1.length ≤ 51 ∧ (l[i].2.1 = false → l[i].2.2.1 = []) ∧ 0 ≤ l[i].2.2.2.1 ∧ l[i].2.2.2.1 ≤ 1073741824 ∧ 0 ≤ l[i].2.2.2.2 ∧ l[i].2.2.2.2 ≤ 1073741824) [(0, .slice (l.map rowEn) nl o), (5, .slice (l.map rowEn) nl o), (6, I64 (l.map rowEn).length), (7, I64 (i : Nat))]) ?_ ?_
    · refine ow_k 1 10 (by kernel_rfl) ?_
      refine ow_ld 4 0 (rowEn l[i]) (ST l[i].1) (by kernel_rfl) (by kernel_rfl) (by kernel_rfl) (by kernel_rfl) (by kernel_rfl) (by kernel_rfl) ?_
      refine ow_callDG (k := 58) (first := []) (captured := []) (xs := [ST l[i].1]) (r := BO b1) (by kernel_rfl) (by kernel_rfl) (by kernel_rfl) (by kernel_rfl) (by kernel_rfl) (by kernel_rfl) h1 (by kernel_rfl) ?_
      cases b1 with
      | false =>
        refine ow_all 10 (by kernel_rfl) ?_
        exact isB_of true (fun h => by cases h) (by kernel_rfl)
      | true =>
        refine ow_k 3 10 (by kernel_rfl) ?_
        cases hG : decide ((0 : Int) < (i : Int)) with
        | false =>
          refine ow_is (x := decide ((0 : Int) < (i : Int))) (w := false) hG (by kernel_rfl) (by kernel_rfl) (by kernel_rfl) (by kernel_rfl) (by kernel_rfl) ?_
          refine ow_k 14 10 (by kernel_rfl) ?_
          refine ow_ld 4 3 (rowEn l[i]) (.agg [I64 l[i].2.2.2.1, I64 l[i].2.2.2.2]) (by kernel_rfl) (by kernel_rfl) (by kernel_rfl) (by kernel_rfl) (by kernel_rfl) (by kernel_rfl) ?_
          refine ow_callDG (k := 59) (first := []) (captured := []) (xs := [.agg [I64 l[i].2.2.2.1, I64 l[i].2.2.2.2]]) (r := BO b3) (by kernel_rfl) (by kernel_rfl) (by kernel_rfl) (by kernel_rfl) (by kernel_rfl) (by kernel_rfl) h3 (by kernel_rfl) ?_
          cases b3 with
          | false =>
            refine ow_all 10 (by kernel_rfl) ?_
            exact isB_of true (fun h => by cases h) (by kernel_rfl)
          | true =>
            refine ow_absB 62 [] (cfg17.heap 18) 4 (rowEn l[i]) [(0, .slice (l.map rowEn) nl o), (5, .slice (l.map rowEn) nl o), (6, I64 (l.map rowEn).length), (7, I64 (i : Nat)), (3, I64 (i : Nat)), (31, BO false), (34, BO true)] (by kernel_rfl) (by kernel_rfl) (fun _ _ _ _ => ?_)
            refine ow_k 4 10 (by kernel_rfl) ?_
            refine ow_ld 4 3 (rowEn l[i]) (.agg [I64 l[i].2.2.2.1, I64 l[i].2.2.2.2]) (by kernel_rfl) (by kernel_rfl) (by kernel_rfl) (by kernel_rfl) (by kernel_rfl) (by kernel_rfl) ?_
            refine ow_k 1 10 (by kernel_rfl) ?_
            cases hq : eqPr l[i].2.2.2 (0, 0) with
            | true =>
              refine ow_cmp (r := true) (cs := [I64 l[i].2.2.2.1, I64 l[i].2.2.2.2]) (es := [I64 0, I64 0]) (fun ox oy => by rw [← hq]; exact (cmpPr l[i].2.2.2 (0, 0) ox oy).2) (by kernel_rfl) (by kernel_rfl) (by kernel_rfl) (by kernel_rfl) ?_
              refine ow_all 10 (by kernel_rfl) ?_
              exact isB_of true (fun h => by cases h) (by kernel_rfl)
            | false =>
              refine ow_cmp (r := false) (cs := [I64 l[i].2.2.2.1, I64 l[i].2.2.2.2]) (es := [I64 0, I64 0]) (fun ox oy => by rw [← hq]; exact (cmpPr l[i].2.2.2 (0, 0) ox oy).2) (by kernel_rfl) (by kernel_rfl) (by kernel_rfl) (by kernel_rfl) ?_
              refine ow_absB 62 [] (cfg17.heap 18) 4 (rowEn l[i]) [(0, .slice (l.map rowEn) nl o), (5, .slice (l.map rowEn) nl o), (6, I64 (l.map rowEn).length), (7, I64 (i : Nat)), (3, I64 (i : Nat)), (37, BO false), (41, BO false)] (by kernel_rfl) (by kernel_rfl) (fun _ _ _ _ => ?_)
              refine ow_k 3 10 (by kernel_rfl) ?_
              cases hh : l[i].2.1 with
              | true =>
                refine ow_ld 4 1 (rowEn l[i]) (BO true) (by kernel_rfl) (by kernel_rfl) (by kernel_rfl) (Eq.trans (by kernel_rfl) (congrArg (fun b => some (BO b)) hh)) (by kernel_rfl) (by kernel_rfl) ?_
                refine ow_all 10 (by kernel_rfl) ?_
                exact isB_of false (fun _ => ⟨g1 rfl, (fun h => by cases h), g3 rfl⟩) (by kernel_rfl)
              | false =>
                refine ow_ld 4 1 (rowEn l[i]) (BO false) (by kernel_rfl) (by kernel_rfl) (by kernel_rfl) (Eq.trans (by kernel_rfl) (congrArg (fun b => some (BO b)) hh)) (by kernel_rfl) (by kernel_rfl) ?_
                refine ow_k 3 10 (by kernel_rfl) ?_
                refine ow_ld 4 2 (rowEn l[i]) (ST l[i].2.2.1) (by kernel_rfl) (by kernel_rfl) (by kernel_rfl) (by kernel_rfl) (by kernel_rfl) (by kernel_rfl) ?_
                refine ow_all 10 (by kernel_rfl) ?_
                exact isB_of (!((⟨⟨l[i].2.2.1⟩⟩ : ByteArray).toList == (⟨⟨[]⟩⟩ : ByteArray).toList)) (fun h => ⟨g1 rfl, (fun _ => by rw [neS] at h; simpa using h), g3 rfl⟩) (by kernel_rfl)
        | true =>
          refine ow_is (x := decide ((0 : Int) < (i : Int))) (w := true) hG (by kernel_rfl) (by kernel_rfl) (by kernel_rfl) (by kernel_rfl) (by kernel_rfl) ?_
          have h0i : 0 < i := by have := of_decide_eq_true hG; omega
          refine ow_k 2 10 (by kernel_rfl) ?_
          refine ow_ld 4 0 (rowEn l[i]) (ST l[i].1) (by kernel_rfl) (by kernel_rfl) (by kernel_rfl) (by kernel_rfl) (by kernel_rfl) (by kernel_rfl) ?_
          refine ow_k 3 10 (by kernel_rfl) ?_
          refine ow_at (rows := l.map rowEn) (nl := nl) (own := o) (row := rowEn (l[i - 1]'(by omega))) (n := IntKind.i64.wrap ((i : Int) - 1)) (e := 63) (row_atp _ _ _ h0i hi hi64) (by rw [pred64 h0i hi64]; omega) (by kernel_rfl) (by kernel_rfl) (by kernel_rfl) (by kernel_rfl) (by kernel_rfl) (by kernel_rfl) ?_
          refine ow_k 2 10 (by kernel_rfl) ?_
          refine ow_any (by kernel_rfl) (by kernel_rfl) (by kernel_rfl) (by kernel_rfl) (by kernel_rfl) (fun w => ?_)
          cases w with
          | true =>
            refine ow_all 10 (by kernel_rfl) ?_
            exact isB_of true (fun h => by cases h) (by kernel_rfl)
          | false =>
            refine ow_k 4 10 (by kernel_rfl) ?_
            refine ow_ld 4 3 (rowEn l[i]) (.agg [I64 l[i].2.2.2.1, I64 l[i].2.2.2.2]) (by kernel_rfl) (by kernel_rfl) (by kernel_rfl) (by kernel_rfl) (by kernel_rfl) (by kernel_rfl) ?_
            refine ow_callDG (k := 59) (first := []) (captured := []) (xs := [.agg [I64 l[i].2.2.2.1, I64 l[i].2.2.2.2]]) (r := BO b3) (by kernel_rfl) (by kernel_rfl) (by kernel_rfl) (by kernel_rfl) (by kernel_rfl) (by kernel_rfl) h3 (by kernel_rfl) ?_
            cases b3 with
            | false =>
              refine ow_all 10 (by kernel_rfl) ?_
              exact isB_of true (fun h => by cases h) (by kernel_rfl)
            | true =>
              refine ow_absB 62 [] (cfg17.heap 18) 4 (rowEn l[i]) [(0, .slice (l.map rowEn) nl o), (5, .slice (l.map rowEn) nl o), (6, I64 (l.map rowEn).length), (7, I64 (i : Nat)), (3, I64 (i : Nat)), (31, BO false), (34, BO true)] (by kernel_rfl) (by kernel_rfl) (fun _ _ _ _ => ?_)
              refine ow_k 4 10 (by kernel_rfl) ?_
              refine ow_ld 4 3 (rowEn l[i]) (.agg [I64 l[i].2.2.2.1, I64 l[i].2.2.2.2]) (by kernel_rfl) (by kernel_rfl) (by kernel_rfl) (by kernel_rfl) (by kernel_rfl) (by kernel_rfl) ?_
              refine ow_k 1 10 (by kernel_rfl) ?_
              cases hq : eqPr l[i].2.2.2 (0, 0) with
              | true =>
                refine ow_cmp (r := true) (cs := [I64 l[i].2.2.2.1, I64 l[i].2.2.2.2]) (es := [I64 0, I64 0]) (fun ox oy => by rw [← hq]; exact (cmpPr l[i].2.2.2 (0, 0) ox oy).2) (by kernel_rfl) (by kernel_rfl) (by kernel_rfl) (by kernel_rfl) ?_
                refine ow_all 10 (by kernel_rfl) ?_
                exact isB_of true (fun h => by cases h) (by kernel_rfl)
              | false =>
                refine ow_cmp (r := false) (cs := [I64 l[i].2.2.2.1, I64 l[i].2.2.2.2]) (es := [I64 0, I64 0]) (fun ox oy => by rw [← hq]; exact (cmpPr l[i].2.2.2 (0, 0) ox oy).2) (by kernel_rfl) (by kernel_rfl) (by kernel_rfl) (by kernel_rfl) ?_
                refine ow_absB 62 [] (cfg17.heap 18) 4 (rowEn l[i]) [(0, .slice (l.map rowEn) nl o), (5, .slice (l.map rowEn) nl o), (6, I64 (l.map rowEn).length), (7, I64 (i : Nat)), (3, I64 (i : Nat)), (37, BO false), (41, BO false)] (by kernel_rfl) (by kernel_rfl) (fun _ _ _ _ => ?_)
                refine ow_k 3 10 (by kernel_rfl) ?_
                cases hh : l[i].2.1 with
                | true =>
                  refine ow_ld 4 1 (rowEn l[i]) (BO true) (by kernel_rfl) (by kernel_rfl) (by kernel_rfl) (Eq.trans (by kernel_rfl) (congrArg (fun b => some (BO b)) hh)) (by kernel_rfl) (by kernel_rfl) ?_
                  refine ow_all 10 (by kernel_rfl) ?_
                  exact isB_of false (fun _ => ⟨g1 rfl, (fun h => by cases h), g3 rfl⟩) (by kernel_rfl)
                | false =>
                  refine ow_ld 4 1 (rowEn l[i]) (BO false) (by kernel_rfl) (by kernel_rfl) (by kernel_rfl) (Eq.trans (by kernel_rfl) (congrArg (fun b => some (BO b)) hh)) (by kernel_rfl) (by kernel_rfl) ?_
                  refine ow_k 3 10 (by kernel_rfl) ?_
                  refine ow_ld 4 2 (rowEn l[i]) (ST l[i].2.2.1) (by kernel_rfl) (by kernel_rfl) (by kernel_rfl) (by kernel_rfl) (by kernel_rfl) (by kernel_rfl) ?_
                  refine ow_all 10 (by kernel_rfl) ?_
                  exact isB_of (!((⟨⟨l[i].2.2.1⟩⟩ : ByteArray).toList == (⟨⟨[]⟩⟩ : ByteArray).toList)) (fun h => ⟨g1 rfl, (fun _ => by rw [neS] at h; simpa using h), g3 rfl⟩) (by kernel_rfl)
    · rintro F ⟨v, hv, t, c, al, rfl⟩
      refine aw_cond (t := v) (by kernel_rfl) (fun _ => ?_) (fun h => ?_)
      · refine aw_sk 10 (by kernel_rfl) ?_
        refine aw_ret ?_
        exact ⟨.inr rfl, [BO false], by kernel_rfl, by kernel_rfl, ⟨false, by kernel_rfl, fun h => by cases h⟩, by kernel_rfl⟩
      · refine aw_skip ?_
        refine aw_rk 10 (by kernel_rfl) ?_
        exact ⟨is_at (l' := [(0, .slice (l.map rowEn) nl o), (5, .slice (l.map rowEn) nl o), (6, I64 (l.map rowEn).length), (7, I64 (IntKind.i64.wrap ((i : Int) + 1)))]) (by rw [succ64 (by omega)]) (by kernel_rfl), mem_take_next hi hpre (hv h)⟩
  · rintro F ⟨⟨t, c, al, rfl⟩, hpre⟩
    rw [List.take_length] at hpre
    refine aw_sk 10 (by kernel_rfl) ?_
    refine aw_sc (decide ((l.length : Int) < ((l.map rowEn).length : Int))) (by kernel_rfl) (fun h => absurd (of_decide_eq_true h) (by rw [List.length_map]; omega)) (fun _ => ?_)
    refine aw_sexit ?_
    dsimp only [Then, InBlock, if_true]
    obtain ⟨nl', o', h60, ho'⟩ := files60 l nl o hlen
    have h60' : callQ cfg17 (evK cfg17) 60 ([.slice (l.map rowEn) nl o].map strip) = some (.slice ((filesOf l).map rowFi) nl' o') := by
      simp only [List.map_cons, List.map_nil, ho]
      exact h60
    have hfx : ∀ x ∈ filesOf l, x.1.length ≤ 1000000 := by
      intro x hm
      obtain ⟨e, he, _, rfl⟩ := (filesOf_mem l x).1 hm
      exact hx e he
    refine aw_sr (ow_k 2 10 (by kernel_rfl) ?_)
    cases hL : decide (((l.map rowEn).length : Int) ≤ 32) with
    | false =>
      refine ow_is (x := decide (((l.map rowEn).length : Int) ≤ 32)) (w := false) hL (by kernel_rfl) (by kernel_rfl) (by kernel_rfl) (by kernel_rfl) (by kernel_rfl) ?_
      refine ow_all 10 (by kernel_rfl) ?_
      refine aw_ret ?_
      exact ⟨.inr rfl, [BO false], by kernel_rfl, by kernel_rfl, ⟨false, by kernel_rfl, fun h => by cases h⟩, by kernel_rfl⟩
    | true =>
      have hl32 : l.length ≤ 32 := by
        have := of_decide_eq_true hL
        rw [List.length_map] at this
        omega
      refine ow_is (x := decide (((l.map rowEn).length : Int) ≤ 32)) (w := true) hL (by kernel_rfl) (by kernel_rfl) (by kernel_rfl) (by kernel_rfl) (by kernel_rfl) ?_
      refine ow_k 2 10 (by kernel_rfl) ?_
      rcases ho' with rfl | rfl
      · obtain ⟨b, hb, hok⟩ := tree20 (filesOf l) nl' .full hfx rfl
        refine ow_callG (k := 60) (first := []) (captured := []) (xs := [.slice (l.map rowEn) nl o]) (r := .slice ((filesOf l).map rowFi) nl' .full) (by kernel_rfl) (by kernel_rfl) (by kernel_rfl) (by kernel_rfl) (by kernel_rfl) (by kernel_rfl) h60' (by kernel_rfl) (by kernel_rfl) ?_
        refine ow_callG (k := 20) (first := []) (captured := []) (xs := [.slice ((filesOf l).map rowFi) nl' .full]) (r := BO b) (by kernel_rfl) (by kernel_rfl) (by kernel_rfl) (by kernel_rfl) (by kernel_rfl) (by kernel_rfl) hb (by kernel_rfl) (by kernel_rfl) ?_
        refine ow_all 10 (by kernel_rfl) ?_
        refine aw_ret ?_
        refine ⟨.inr rfl, [BO b], by kernel_rfl, by kernel_rfl, ⟨b, by kernel_rfl, fun hbt => okArch_of hl32 hpre (hok hbt)⟩, by kernel_rfl⟩
      · obtain ⟨b, hb, hok⟩ := tree20 (filesOf l) nl' .no hfx rfl
        refine ow_callG (k := 60) (first := []) (captured := []) (xs := [.slice (l.map rowEn) nl o]) (r := .slice ((filesOf l).map rowFi) nl' .fresh) (by kernel_rfl) (by kernel_rfl) (by kernel_rfl) (by kernel_rfl) (by kernel_rfl) (by kernel_rfl) h60' (by kernel_rfl) (by kernel_rfl) ?_
        refine ow_callA (k := 20) (first := []) (captured := []) (r := BO b) (by kernel_rfl) (by kernel_rfl) (by kernel_rfl) (by kernel_rfl) (by kernel_rfl) (by kernel_rfl) hb (by kernel_rfl) (by kernel_rfl) ?_
        refine ow_all 10 (by kernel_rfl) ?_
        refine aw_ret ?_
        refine ⟨.inr rfl, [BO b], by kernel_rfl, by kernel_rfl, ⟨b, by kernel_rfl, fun hbt => okArch_of hl32 hpre (hok hbt)⟩, by kernel_rfl⟩
end Go.Proofs.V
