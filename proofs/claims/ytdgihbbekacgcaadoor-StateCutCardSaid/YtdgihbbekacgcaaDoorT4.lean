/- Flags, cursors, files, entries, puts, and rows of them, written. -/
import Derived.Test.YtdgihbbekacgcaaDoorT1
import Derived.Test.YtdgihbbekacgcaaDoorV26
namespace Go.Proofs.V
open Go Go.Proofs Go.Proofs.V.Wire
set_option linter.unusedVariables false
set_option linter.unusedSimpArgs false
theorem encN_len (n : Int) : (encN n).length = 4 := rfl
theorem encS_len (s : BS) : (encS s).length ≤ 16388 := by
  simp only [encS, List.length_append, encN_len, List.length_take]; omega
theorem numbers_spec (bs : BS) (nl : Bool) (own : Own) (ns : List Int) (nl2 : Bool) (own2 : Own) (hne : ns ≠ []) (hb : bs.length + 4 * ns.length ≤ 1073000000) (hnl : nl = true → bs = []) :
    callQ cfg17 (evK cfg17) 71 [BSl bs nl own, .slice (ns.map rowN) nl2 own2] = some (BSl (bs ++ encL encN ns) false .fresh) := callQ_of (by kernel_rfl) (numbers71 bs nl own ns nl2 own2 hne hb hnl)
set_option maxRecDepth 100000
set_option maxHeartbeats 1000000
theorem flag44 (bs : BS) (nl : Bool) (own : Own) (b : Bool) (hb : bs.length ≤ 1073000000) (hnl : nl = true → bs = []) :
    callQ cfg17 (evK cfg17) 44 [BSl bs nl own, BO b] = some (BSl (bs ++ encB b) false .fresh) := by
  refine callQ_of (by kernel_rfl) ?_
  have hcl : ∀ n : Int, callQ cfg17 (evK cfg17) 38 [strip (BSl bs nl own), I64 n] = some (BSl (bs ++ encN n) false .fresh) := fun n => by
    cases own <;> exact number_spec bs nl _ n (by omega) hnl
  refine evK_of Tryd.func44 rfl (of_decide_eq_true (by kernel_rfl)) (by kernel_rfl) (by kernel_rfl) rfl ?_
  unfold Tryd.f44
  dsimp only
  refine aw_sk 10 (by kernel_rfl) ?_
  refine aw_assoc (aw_sk 10 (by kernel_rfl) ?_)
  cases b with
  | true =>
    refine aw_sc true (by kernel_rfl) (fun _ => ?_) (fun h => by cases h)
    refine aw_assoc (aw_sr (ow_k 1 10 (by kernel_rfl) ?_))
    refine ow_callG (k := 38) (first := []) (captured := []) (xs := [BSl bs nl own, I64 1]) (r := BSl (bs ++ encN 1) false .fresh) (by kernel_rfl) (by kernel_rfl) (by kernel_rfl) (by kernel_rfl) (by kernel_rfl) (by kernel_rfl) (hcl 1) (by kernel_rfl) (by kernel_rfl) ?_
    refine ow_all 10 (by kernel_rfl) ?_
    refine aw_sret ?_
    exact ⟨.inr rfl, [BSl (bs ++ encN 1) false (.id 192)], by kernel_rfl, by kernel_rfl, by kernel_rfl, by kernel_rfl⟩
  | false =>
    refine aw_sc false (by kernel_rfl) (fun h => by cases h) (fun _ => ?_)
    refine aw_sskip (aw_sr (ow_k 1 10 (by kernel_rfl) ?_))
    refine ow_callG (k := 38) (first := []) (captured := []) (xs := [BSl bs nl own, I64 0]) (r := BSl (bs ++ encN 0) false .fresh) (by kernel_rfl) (by kernel_rfl) (by kernel_rfl) (by kernel_rfl) (by kernel_rfl) (by kernel_rfl) (hcl 0) (by kernel_rfl) (by kernel_rfl) ?_
    refine ow_all 10 (by kernel_rfl) ?_
    refine aw_ret ?_
    exact ⟨.inr rfl, [BSl (bs ++ encN 0) false (.id 192)], by kernel_rfl, by kernel_rfl, by kernel_rfl, by kernel_rfl⟩
theorem cursor40 (bs : BS) (x : Cu) (hb : bs.length ≤ 1072000000) :
    callQ cfg17 (evK cfg17) 40 [BSl bs false .no, .agg (cellsCu x)] = some (BSl (bs ++ encCu x) false .fresh) := by
  refine callQ_of (by kernel_rfl) ?_
  have hcl := numbers_spec bs false .no [x.1, x.2.1, x.2.2.1, x.2.2.2] false .full (by simp) (by simp; omega) (fun h => by cases h)
  have he : encL encN [x.1, x.2.1, x.2.2.1, x.2.2.2] = encCu x := by simp [encL, encCu]
  rw [he] at hcl
  refine evK_of Tryd.func40 rfl (of_decide_eq_true (by kernel_rfl)) (by kernel_rfl) (by kernel_rfl) rfl ?_
  unfold Tryd.f40
  dsimp only
  refine aw_sk 10 (by kernel_rfl) ?_
  refine aw_sr (ow_k 10 10 (by kernel_rfl) ?_)
  refine ow_callG (k := 71) (first := []) (captured := []) (xs := [BSl bs false .no, .slice ([x.1, x.2.1, x.2.2.1, x.2.2.2].map rowN) false .full]) (r := BSl (bs ++ encCu x) false .fresh) (by kernel_rfl) (by kernel_rfl) (by kernel_rfl) (by kernel_rfl) (by kernel_rfl) (by kernel_rfl) hcl (by kernel_rfl) (by kernel_rfl) ?_
  refine ow_all 10 (by kernel_rfl) ?_
  refine aw_ret ?_
  exact ⟨.inr rfl, [BSl (bs ++ encCu x) false (.id 768)], by kernel_rfl, by kernel_rfl, by kernel_rfl, by kernel_rfl⟩
theorem file39 (bs : BS) (x : Fi) (hb : bs.length ≤ 1072000000) :
    callQ cfg17 (evK cfg17) 39 [BSl bs false .no, .agg (rowFi x)] = some (BSl (bs ++ encFi x) false .no) := by
  refine callQ_of (by kernel_rfl) ?_
  have h1 := string_spec bs false .no x.1 (by omega) (fun h => by cases h)
  have h2 := string_spec (bs ++ encS x.1) false .no x.2 (by have := encS_len x.1; rw [List.length_append]; omega) (fun h => by cases h)
  rw [List.append_assoc, show encS x.1 ++ encS x.2 = encFi x from rfl] at h2
  refine evK_of Tryd.func39 rfl (of_decide_eq_true (by kernel_rfl)) (by kernel_rfl) (by kernel_rfl) rfl ?_
  unfold Tryd.f39
  dsimp only
  refine aw_sk 10 (by kernel_rfl) ?_
  refine aw_sr (ow_k 3 10 (by kernel_rfl) ?_)
  refine ow_callDG (k := 70) (first := []) (captured := []) (xs := [BSl bs false .no, ST x.1]) (r := BSl (bs ++ encS x.1) false .fresh) (by kernel_rfl) (by kernel_rfl) (by kernel_rfl) (by kernel_rfl) (by kernel_rfl) (by kernel_rfl) h1 (by kernel_rfl) ?_
  refine ow_k 2 10 (by kernel_rfl) ?_
  refine ow_callDG (k := 70) (first := []) (captured := []) (xs := [BSl (bs ++ encS x.1) false .no, ST x.2]) (r := BSl (bs ++ encFi x) false .fresh) (by kernel_rfl) (by kernel_rfl) (by kernel_rfl) (by kernel_rfl) (by kernel_rfl) (by kernel_rfl) h2 (by kernel_rfl) ?_
  refine ow_all 10 (by kernel_rfl) ?_
  refine aw_ret ?_
  exact ⟨.inr rfl, [BSl (bs ++ encFi x) false .no], by kernel_rfl, by kernel_rfl, by kernel_rfl, by kernel_rfl⟩
theorem put47 (bs : BS) (x : Pu) (hb : bs.length ≤ 1072000000) :
    callQ cfg17 (evK cfg17) 47 [BSl bs false .no, .agg (rowPu x)] = some (BSl (bs ++ encPu x) false .no) := by
  refine callQ_of (by kernel_rfl) ?_
  have h1 := number_spec bs false .no x.1 (by omega) (fun h => by cases h)
  have h2 := string_spec (bs ++ encN x.1) false .no x.2 (by rw [List.length_append, encN_len]; omega) (fun h => by cases h)
  rw [List.append_assoc, show encN x.1 ++ encS x.2 = encPu x from rfl] at h2
  refine evK_of Tryd.func47 rfl (of_decide_eq_true (by kernel_rfl)) (by kernel_rfl) (by kernel_rfl) rfl ?_
  unfold Tryd.f47
  dsimp only
  refine aw_sk 10 (by kernel_rfl) ?_
  refine aw_sr (ow_k 3 10 (by kernel_rfl) ?_)
  refine ow_callDG (k := 38) (first := []) (captured := []) (xs := [BSl bs false .no, I64 x.1]) (r := BSl (bs ++ encN x.1) false .fresh) (by kernel_rfl) (by kernel_rfl) (by kernel_rfl) (by kernel_rfl) (by kernel_rfl) (by kernel_rfl) h1 (by kernel_rfl) ?_
  refine ow_k 2 10 (by kernel_rfl) ?_
  refine ow_callDG (k := 70) (first := []) (captured := []) (xs := [BSl (bs ++ encN x.1) false .no, ST x.2]) (r := BSl (bs ++ encPu x) false .fresh) (by kernel_rfl) (by kernel_rfl) (by kernel_rfl) (by kernel_rfl) (by kernel_rfl) (by kernel_rfl) h2 (by kernel_rfl) ?_
  refine ow_all 10 (by kernel_rfl) ?_
  refine aw_ret ?_
  exact ⟨.inr rfl, [BSl (bs ++ encPu x) false .no], by kernel_rfl, by kernel_rfl, by kernel_rfl, by kernel_rfl⟩
theorem entry42 (bs : BS) (x : En) (hb : bs.length ≤ 1072000000) :
    callQ cfg17 (evK cfg17) 42 [BSl bs false .no, .agg (rowEn x)] = some (BSl (bs ++ encEn x) false .no) := by
  refine callQ_of (by kernel_rfl) ?_
  have l1 := encS_len x.1
  have l3 := encS_len x.2.2.1
  have lb : (encB x.2.1).length = 4 := rfl
  have h1 := string_spec bs false .no x.1 (by omega) (fun h => by cases h)
  have h2 := flag44 (bs ++ encS x.1) false .no x.2.1 (by rw [List.length_append]; omega) (fun h => by cases h)
  have h3 := string_spec (bs ++ encS x.1 ++ encB x.2.1) false .no x.2.2.1 (by simp only [List.length_append]; omega) (fun h => by cases h)
  have h4 := numbers_spec (bs ++ encS x.1 ++ encB x.2.1 ++ encS x.2.2.1) false .no [x.2.2.2.1, x.2.2.2.2] false .full (by simp) (by simp only [List.length_append, List.length_cons, List.length_nil]; omega) (fun h => by cases h)
  have he : bs ++ encS x.1 ++ encB x.2.1 ++ encS x.2.2.1 ++ encL encN [x.2.2.2.1, x.2.2.2.2] = bs ++ encEn x := by simp [encL, encEn]
  rw [he] at h4
  refine evK_of Tryd.func42 rfl (of_decide_eq_true (by kernel_rfl)) (by kernel_rfl) (by kernel_rfl) rfl ?_
  unfold Tryd.f42
  dsimp only
  refine aw_sk 10 (by kernel_rfl) ?_
  refine aw_sr (ow_k 3 10 (by kernel_rfl) ?_)
  refine ow_callDG (k := 70) (first := []) (captured := []) (xs := [BSl bs false .no, ST x.1]) (r := BSl (bs ++ encS x.1) false .fresh) (by kernel_rfl) (by kernel_rfl) (by kernel_rfl) (by kernel_rfl) (by kernel_rfl) (by kernel_rfl) h1 (by kernel_rfl) ?_
  refine ow_k 2 10 (by kernel_rfl) ?_
  refine ow_callDG (k := 44) (first := []) (captured := []) (xs := [BSl (bs ++ encS x.1) false .no, BO x.2.1]) (r := BSl (bs ++ encS x.1 ++ encB x.2.1) false .fresh) (by kernel_rfl) (by kernel_rfl) (by kernel_rfl) (by kernel_rfl) (by kernel_rfl) (by kernel_rfl) h2 (by kernel_rfl) ?_
  refine ow_k 2 10 (by kernel_rfl) ?_
  refine ow_callDG (k := 70) (first := []) (captured := []) (xs := [BSl (bs ++ encS x.1 ++ encB x.2.1) false .no, ST x.2.2.1]) (r := BSl (bs ++ encS x.1 ++ encB x.2.1 ++ encS x.2.2.1) false .fresh) (by kernel_rfl) (by kernel_rfl) (by kernel_rfl) (by kernel_rfl) (by kernel_rfl) (by kernel_rfl) h3 (by kernel_rfl) ?_
  refine ow_k 7 10 (by kernel_rfl) ?_
  refine ow_callDG (k := 71) (first := []) (captured := []) (xs := [BSl (bs ++ encS x.1 ++ encB x.2.1 ++ encS x.2.2.1) false .no, .slice ([x.2.2.2.1, x.2.2.2.2].map rowN) false .full]) (r := BSl (bs ++ encEn x) false .fresh) (by kernel_rfl) (by kernel_rfl) (by kernel_rfl) (by kernel_rfl) (by kernel_rfl) (by kernel_rfl) h4 (by kernel_rfl) ?_
  refine ow_all 10 (by kernel_rfl) ?_
  refine aw_ret ?_
  exact ⟨.inr rfl, [BSl (bs ++ encEn x) false .no], by kernel_rfl, by kernel_rfl, by kernel_rfl, by kernel_rfl⟩
theorem encL_len {α : Type} (c : α → BS) (K : Nat) (hc : ∀ x, (c x).length ≤ K) : ∀ l : List α, (encL c l).length ≤ K * l.length
  | [] => by simp [encL]
  | a :: l => by
    have := encL_len c K hc l
    have := hc a
    simp only [encL, List.flatMap_cons, List.length_append, List.length_cons] at *
    rw [Nat.mul_add]
    omega
theorem row37 (bs : BS) (o0 : Own) (nl0 : Bool) (hnl0 : nl0 = true → bs = []) (l : List Fi) (nl2 : Bool) (own2 : Own) (hb : bs.length + 40000 * l.length ≤ 1071000000) :
    ∃ o, NF o ∧ callQ cfg17 (evK cfg17) 37 [BSl bs nl0 o0, .slice (l.map rowFi) nl2 own2, .fn (.func 39) [] []] = some (BSl (bs ++ encR encFi l) false o) := by
  have hK : ∀ x : Fi, (encFi x).length ≤ 40000 := fun x => by have h1 := encS_len x.1; have h2 := encS_len x.2; simp only [encFi, List.length_append]; omega
  have hlen : ∀ i, (encL encFi (l.take i)).length ≤ 40000 * l.length := fun i => by
    have h1 := encL_len encFi 40000 hK (l.take i)
    have h2 : 40000 * (l.take i).length ≤ 40000 * l.length := Nat.mul_le_mul_left _ (by rw [List.length_take]; omega)
    omega
  have hnum : callQ cfg17 (evK cfg17) 38 [strip (BSl bs nl0 o0), I64 ((l.map rowFi).length : Nat)] = some (BSl (bs ++ encN (l.length : Nat)) false .fresh) := by
    rw [List.length_map]
    cases o0 <;> exact number_spec bs nl0 _ _ (by omega) hnl0
  suffices h : ∃ r H', evK cfg17 37 [BSl bs nl0 o0, .slice (l.map rowFi) nl2 own2, .fn (.func 39) [] []] [] = some (r, H') ∧ (∃ o, NF o ∧ r = BSl (bs ++ encR encFi l) false o) ∧ H' = [] by
    obtain ⟨r, H', h, ⟨o, ho, rfl⟩, rfl⟩ := h
    exact ⟨o, ho, callQ_of (by kernel_rfl) h⟩
  refine evK_ofE (P := fun r H' => (∃ o, NF o ∧ r = BSl (bs ++ encR encFi l) false o) ∧ H' = []) Tryd.func37 rfl (of_decide_eq_true (by kernel_rfl)) (by kernel_rfl) (by kernel_rfl) rfl ?_
  unfold Tryd.f37
  dsimp only
  refine aw_sk 10 (by kernel_rfl) ?_
  refine aw_sr (ow_k 3 10 (by kernel_rfl) ?_)
  refine ow_callG (k := 38) (first := []) (captured := []) (xs := [BSl bs nl0 o0, I64 ((l.map rowFi).length : Nat)]) (r := BSl (bs ++ encN (l.length : Nat)) false .fresh) (by kernel_rfl) (by kernel_rfl) (by kernel_rfl) (by kernel_rfl) (by kernel_rfl) (by kernel_rfl) hnum (by kernel_rfl) (by kernel_rfl) ?_
  refine ow_all 10 (by kernel_rfl) ?_
  refine aw_assoc (aw_sk 10 (by kernel_rfl) ?_)
  refine aw_sfor l.length (fun i => IsN 25 [] (cfg17.heap 37) 0 (bsA (bs ++ encN (l.length : Nat) ++ encL encFi (l.take i))) [(2, .fn (.func 39) [] []), (13, .slice (l.map rowFi) nl2 own2), (14, I64 (l.map rowFi).length), (15, I64 (i : Nat))]) ?_ ?_ ?_
  · exact isN_of (o := .id 256) (rows' := bsA (bs ++ encN (l.length : Nat))) (by kernel_rfl) (by simp [encL]) (.inr ⟨_, rfl⟩)
  · rintro i F hi ⟨t, c, al, o, rfl, ho⟩
    have hlt : (bs ++ encN (l.length : Nat) ++ encL encFi (l.take i)).length ≤ 1072000000 := by
      have := hlen i
      simp only [List.length_append, encN_len]
      omega
    have hcl : ∃ r, NF r ∧ callQ cfg17 (evK cfg17) 39 [strip (BSl (bs ++ encN (l.length : Nat) ++ encL encFi (l.take i)) false o), .agg (rowFi l[i])] = some (BSl (bs ++ encN (l.length : Nat) ++ encL encFi (l.take i) ++ encFi l[i]) false r) := by
      rw [strip_ni ho]
      exact ⟨_, .inl rfl, file39 _ _ hlt⟩
    obtain ⟨r, hr, hcl⟩ := hcl
    rcases hr with rfl | rfl
    all_goals refine aw_sk 10 (by kernel_rfl) ?_
    all_goals refine aw_sc (decide ((i : Int) < ((l.map rowFi).length : Int))) (by kernel_rfl) (fun _ => ?_) (fun h => absurd (of_decide_eq_false h) (by rw [List.length_map]; omega))
    all_goals refine aw_sskip (aw_seq (aw_block (aw_sr ?_)))
    all_goals refine ow_at (rows := l.map rowFi) (nl := nl2) (own := own2) (row := rowFi l[i]) (n := i) (e := 57) (row_at _ _ _ hi) (by omega) (by kernel_rfl) (by kernel_rfl) (by kernel_rfl) (by kernel_rfl) (by kernel_rfl) (by kernel_rfl) ?_
    all_goals refine ow_k 2 10 (by kernel_rfl) ?_
    all_goals refine ow_st 8 0 [ST [], ST []] (.agg (rowFi l[i])) (by kernel_rfl) (by kernel_rfl) (by kernel_rfl) (by kernel_rfl) (by kernel_rfl) (by kernel_rfl) (by kernel_rfl) ?_
    all_goals refine ow_all 10 (by kernel_rfl) ?_
    all_goals refine aw_region (ow_k 2 10 (by kernel_rfl) ?_)
    all_goals refine ow_ld 8 0 (rowFi l[i]) (.agg (rowFi l[i])) (by kernel_rfl) (by kernel_rfl) (by kernel_rfl) (by kernel_rfl) (by kernel_rfl) (by kernel_rfl) ?_
    all_goals refine ow_callG (k := 39) (first := []) (captured := []) (xs := [BSl (bs ++ encN (l.length : Nat) ++ encL encFi (l.take i)) false o, .agg (rowFi l[i])]) (by kernel_rfl) (by kernel_rfl) (by kernel_rfl) (by kernel_rfl) (by kernel_rfl) (by kernel_rfl) hcl (by kernel_rfl) (by kernel_rfl) ?_
    all_goals refine ow_all 10 (by kernel_rfl) ?_
    all_goals refine aw_rk 10 (by kernel_rfl) ?_
    · exact isN_at (l' := [(2, .fn (.func 39) [] []), (13, .slice (l.map rowFi) nl2 own2), (14, I64 (l.map rowFi).length), (15, I64 (IntKind.i64.wrap ((i : Int) + 1)))]) (o := .no) (rows' := bsA (bs ++ encN (l.length : Nat) ++ encL encFi (l.take i) ++ encFi l[i])) (by rw [succ64 (by omega)]) (by kernel_rfl) (by rw [encL_take _ _ _ hi]; simp only [List.append_assoc]) (.inl rfl)
    · exact isN_at (l' := [(2, .fn (.func 39) [] []), (13, .slice (l.map rowFi) nl2 own2), (14, I64 (l.map rowFi).length), (15, I64 (IntKind.i64.wrap ((i : Int) + 1)))]) (o := .id (c + 64 * 1 + 64 * 4 + 64 * 3)) (rows' := bsA (bs ++ encN (l.length : Nat) ++ encL encFi (l.take i) ++ encFi l[i])) (by rw [succ64 (by omega)]) (by kernel_rfl) (by rw [encL_take _ _ _ hi]; simp only [List.append_assoc]) (.inr ⟨_, rfl⟩)
  · rintro F ⟨t, c, al, o, rfl, ho⟩
    rw [List.take_length]
    refine aw_sk 10 (by kernel_rfl) ?_
    refine aw_sc (decide ((l.length : Int) < ((l.map rowFi).length : Int))) (by kernel_rfl) (fun h => absurd (of_decide_eq_true h) (by rw [List.length_map]; omega)) (fun _ => ?_)
    refine aw_sexit ?_
    dsimp only [Then, InBlock, if_true]
    refine aw_sk 10 (by kernel_rfl) ?_
    refine aw_ret ?_
    obtain ⟨o', ho', hl⟩ := leave_ni ho (rows := bsA (bs ++ encN (l.length : Nat) ++ encL encFi l)) (al := al)
    refine ⟨.inr rfl, [BSl (bs ++ encN (l.length : Nat) ++ encL encFi l) false o], by kernel_rfl, by kernel_rfl, ⟨o', ho', ?_⟩, by kernel_rfl⟩
    rw [encR, ← List.append_assoc]
    exact Eq.trans (by kernel_rfl) hl
theorem row41 (bs : BS) (o0 : Own) (nl0 : Bool) (hnl0 : nl0 = true → bs = []) (l : List En) (nl2 : Bool) (own2 : Own) (hb : bs.length + 40000 * l.length ≤ 1071000000) :
    ∃ o, NF o ∧ callQ cfg17 (evK cfg17) 41 [BSl bs nl0 o0, .slice (l.map rowEn) nl2 own2, .fn (.func 42) [] []] = some (BSl (bs ++ encR encEn l) false o) := by
  have hK : ∀ x : En, (encEn x).length ≤ 40000 := fun x => by have h1 := encS_len x.1; have h2 := encS_len x.2.2.1; simp only [encEn, encB, List.length_append, encN_len]; omega
  have hlen : ∀ i, (encL encEn (l.take i)).length ≤ 40000 * l.length := fun i => by
    have h1 := encL_len encEn 40000 hK (l.take i)
    have h2 : 40000 * (l.take i).length ≤ 40000 * l.length := Nat.mul_le_mul_left _ (by rw [List.length_take]; omega)
    omega
  have hnum : callQ cfg17 (evK cfg17) 38 [strip (BSl bs nl0 o0), I64 ((l.map rowEn).length : Nat)] = some (BSl (bs ++ encN (l.length : Nat)) false .fresh) := by
    rw [List.length_map]
    cases o0 <;> exact number_spec bs nl0 _ _ (by omega) hnl0
  suffices h : ∃ r H', evK cfg17 41 [BSl bs nl0 o0, .slice (l.map rowEn) nl2 own2, .fn (.func 42) [] []] [] = some (r, H') ∧ (∃ o, NF o ∧ r = BSl (bs ++ encR encEn l) false o) ∧ H' = [] by
    obtain ⟨r, H', h, ⟨o, ho, rfl⟩, rfl⟩ := h
    exact ⟨o, ho, callQ_of (by kernel_rfl) h⟩
  refine evK_ofE (P := fun r H' => (∃ o, NF o ∧ r = BSl (bs ++ encR encEn l) false o) ∧ H' = []) Tryd.func41 rfl (of_decide_eq_true (by kernel_rfl)) (by kernel_rfl) (by kernel_rfl) rfl ?_
  unfold Tryd.f41
  dsimp only
  refine aw_sk 10 (by kernel_rfl) ?_
  refine aw_sr (ow_k 3 10 (by kernel_rfl) ?_)
  refine ow_callG (k := 38) (first := []) (captured := []) (xs := [BSl bs nl0 o0, I64 ((l.map rowEn).length : Nat)]) (r := BSl (bs ++ encN (l.length : Nat)) false .fresh) (by kernel_rfl) (by kernel_rfl) (by kernel_rfl) (by kernel_rfl) (by kernel_rfl) (by kernel_rfl) hnum (by kernel_rfl) (by kernel_rfl) ?_
  refine ow_all 10 (by kernel_rfl) ?_
  refine aw_assoc (aw_sk 10 (by kernel_rfl) ?_)
  refine aw_sfor l.length (fun i => IsN 25 [] (cfg17.heap 41) 0 (bsA (bs ++ encN (l.length : Nat) ++ encL encEn (l.take i))) [(2, .fn (.func 42) [] []), (13, .slice (l.map rowEn) nl2 own2), (14, I64 (l.map rowEn).length), (15, I64 (i : Nat))]) ?_ ?_ ?_
  · exact isN_of (o := .id 256) (rows' := bsA (bs ++ encN (l.length : Nat))) (by kernel_rfl) (by simp [encL]) (.inr ⟨_, rfl⟩)
  · rintro i F hi ⟨t, c, al, o, rfl, ho⟩
    have hlt : (bs ++ encN (l.length : Nat) ++ encL encEn (l.take i)).length ≤ 1072000000 := by
      have := hlen i
      simp only [List.length_append, encN_len]
      omega
    have hcl : ∃ r, NF r ∧ callQ cfg17 (evK cfg17) 42 [strip (BSl (bs ++ encN (l.length : Nat) ++ encL encEn (l.take i)) false o), .agg (rowEn l[i])] = some (BSl (bs ++ encN (l.length : Nat) ++ encL encEn (l.take i) ++ encEn l[i]) false r) := by
      rw [strip_ni ho]
      exact ⟨_, .inl rfl, entry42 _ _ hlt⟩
    obtain ⟨r, hr, hcl⟩ := hcl
    rcases hr with rfl | rfl
    all_goals refine aw_sk 10 (by kernel_rfl) ?_
    all_goals refine aw_sc (decide ((i : Int) < ((l.map rowEn).length : Int))) (by kernel_rfl) (fun _ => ?_) (fun h => absurd (of_decide_eq_false h) (by rw [List.length_map]; omega))
    all_goals refine aw_sskip (aw_seq (aw_block (aw_sr ?_)))
    all_goals refine ow_at (rows := l.map rowEn) (nl := nl2) (own := own2) (row := rowEn l[i]) (n := i) (e := 63) (row_at _ _ _ hi) (by omega) (by kernel_rfl) (by kernel_rfl) (by kernel_rfl) (by kernel_rfl) (by kernel_rfl) (by kernel_rfl) ?_
    all_goals refine ow_k 2 10 (by kernel_rfl) ?_
    all_goals refine ow_st 8 0 [ST [], BO false, ST [], I64 0, I64 0] (.agg (rowEn l[i])) (by kernel_rfl) (by kernel_rfl) (by kernel_rfl) (by kernel_rfl) (by kernel_rfl) (by kernel_rfl) (by kernel_rfl) ?_
    all_goals refine ow_all 10 (by kernel_rfl) ?_
    all_goals refine aw_region (ow_k 2 10 (by kernel_rfl) ?_)
    all_goals refine ow_ld 8 0 (rowEn l[i]) (.agg (rowEn l[i])) (by kernel_rfl) (by kernel_rfl) (by kernel_rfl) (by kernel_rfl) (by kernel_rfl) (by kernel_rfl) ?_
    all_goals refine ow_callG (k := 42) (first := []) (captured := []) (xs := [BSl (bs ++ encN (l.length : Nat) ++ encL encEn (l.take i)) false o, .agg (rowEn l[i])]) (by kernel_rfl) (by kernel_rfl) (by kernel_rfl) (by kernel_rfl) (by kernel_rfl) (by kernel_rfl) hcl (by kernel_rfl) (by kernel_rfl) ?_
    all_goals refine ow_all 10 (by kernel_rfl) ?_
    all_goals refine aw_rk 10 (by kernel_rfl) ?_
    · exact isN_at (l' := [(2, .fn (.func 42) [] []), (13, .slice (l.map rowEn) nl2 own2), (14, I64 (l.map rowEn).length), (15, I64 (IntKind.i64.wrap ((i : Int) + 1)))]) (o := .no) (rows' := bsA (bs ++ encN (l.length : Nat) ++ encL encEn (l.take i) ++ encEn l[i])) (by rw [succ64 (by omega)]) (by kernel_rfl) (by rw [encL_take _ _ _ hi]; simp only [List.append_assoc]) (.inl rfl)
    · exact isN_at (l' := [(2, .fn (.func 42) [] []), (13, .slice (l.map rowEn) nl2 own2), (14, I64 (l.map rowEn).length), (15, I64 (IntKind.i64.wrap ((i : Int) + 1)))]) (o := .id (c + 64 * 1 + 64 * 4 + 64 * 3)) (rows' := bsA (bs ++ encN (l.length : Nat) ++ encL encEn (l.take i) ++ encEn l[i])) (by rw [succ64 (by omega)]) (by kernel_rfl) (by rw [encL_take _ _ _ hi]; simp only [List.append_assoc]) (.inr ⟨_, rfl⟩)
  · rintro F ⟨t, c, al, o, rfl, ho⟩
    rw [List.take_length]
    refine aw_sk 10 (by kernel_rfl) ?_
    refine aw_sc (decide ((l.length : Int) < ((l.map rowEn).length : Int))) (by kernel_rfl) (fun h => absurd (of_decide_eq_true h) (by rw [List.length_map]; omega)) (fun _ => ?_)
    refine aw_sexit ?_
    dsimp only [Then, InBlock, if_true]
    refine aw_sk 10 (by kernel_rfl) ?_
    refine aw_ret ?_
    obtain ⟨o', ho', hl⟩ := leave_ni ho (rows := bsA (bs ++ encN (l.length : Nat) ++ encL encEn l)) (al := al)
    refine ⟨.inr rfl, [BSl (bs ++ encN (l.length : Nat) ++ encL encEn l) false o], by kernel_rfl, by kernel_rfl, ⟨o', ho', ?_⟩, by kernel_rfl⟩
    rw [encR, ← List.append_assoc]
    exact Eq.trans (by kernel_rfl) hl
theorem row45 (bs : BS) (o0 : Own) (nl0 : Bool) (hnl0 : nl0 = true → bs = []) (l : List Pu) (nl2 : Bool) (own2 : Own) (hb : bs.length + 40000 * l.length ≤ 1071000000) :
    ∃ o, NF o ∧ callQ cfg17 (evK cfg17) 45 [BSl bs nl0 o0, .slice (l.map rowPu) nl2 own2, .fn (.func 47) [] []] = some (BSl (bs ++ encR encPu l) false o) := by
  have hK : ∀ x : Pu, (encPu x).length ≤ 40000 := fun x => by have h2 := encS_len x.2; simp only [encPu, List.length_append, encN_len]; omega
  have hlen : ∀ i, (encL encPu (l.take i)).length ≤ 40000 * l.length := fun i => by
    have h1 := encL_len encPu 40000 hK (l.take i)
    have h2 : 40000 * (l.take i).length ≤ 40000 * l.length := Nat.mul_le_mul_left _ (by rw [List.length_take]; omega)
    omega
  have hnum : callQ cfg17 (evK cfg17) 38 [strip (BSl bs nl0 o0), I64 ((l.map rowPu).length : Nat)] = some (BSl (bs ++ encN (l.length : Nat)) false .fresh) := by
    rw [List.length_map]
    cases o0 <;> exact number_spec bs nl0 _ _ (by omega) hnl0
  suffices h : ∃ r H', evK cfg17 45 [BSl bs nl0 o0, .slice (l.map rowPu) nl2 own2, .fn (.func 47) [] []] [] = some (r, H') ∧ (∃ o, NF o ∧ r = BSl (bs ++ encR encPu l) false o) ∧ H' = [] by
    obtain ⟨r, H', h, ⟨o, ho, rfl⟩, rfl⟩ := h
    exact ⟨o, ho, callQ_of (by kernel_rfl) h⟩
  refine evK_ofE (P := fun r H' => (∃ o, NF o ∧ r = BSl (bs ++ encR encPu l) false o) ∧ H' = []) Tryd.func45 rfl (of_decide_eq_true (by kernel_rfl)) (by kernel_rfl) (by kernel_rfl) rfl ?_
  unfold Tryd.f45
  dsimp only
  refine aw_sk 10 (by kernel_rfl) ?_
  refine aw_sr (ow_k 3 10 (by kernel_rfl) ?_)
  refine ow_callG (k := 38) (first := []) (captured := []) (xs := [BSl bs nl0 o0, I64 ((l.map rowPu).length : Nat)]) (r := BSl (bs ++ encN (l.length : Nat)) false .fresh) (by kernel_rfl) (by kernel_rfl) (by kernel_rfl) (by kernel_rfl) (by kernel_rfl) (by kernel_rfl) hnum (by kernel_rfl) (by kernel_rfl) ?_
  refine ow_all 10 (by kernel_rfl) ?_
  refine aw_assoc (aw_sk 10 (by kernel_rfl) ?_)
  refine aw_sfor l.length (fun i => IsN 25 [] (cfg17.heap 45) 0 (bsA (bs ++ encN (l.length : Nat) ++ encL encPu (l.take i))) [(2, .fn (.func 47) [] []), (13, .slice (l.map rowPu) nl2 own2), (14, I64 (l.map rowPu).length), (15, I64 (i : Nat))]) ?_ ?_ ?_
  · exact isN_of (o := .id 256) (rows' := bsA (bs ++ encN (l.length : Nat))) (by kernel_rfl) (by simp [encL]) (.inr ⟨_, rfl⟩)
  · rintro i F hi ⟨t, c, al, o, rfl, ho⟩
    have hlt : (bs ++ encN (l.length : Nat) ++ encL encPu (l.take i)).length ≤ 1072000000 := by
      have := hlen i
      simp only [List.length_append, encN_len]
      omega
    have hcl : ∃ r, NF r ∧ callQ cfg17 (evK cfg17) 47 [strip (BSl (bs ++ encN (l.length : Nat) ++ encL encPu (l.take i)) false o), .agg (rowPu l[i])] = some (BSl (bs ++ encN (l.length : Nat) ++ encL encPu (l.take i) ++ encPu l[i]) false r) := by
      rw [strip_ni ho]
      exact ⟨_, .inl rfl, put47 _ _ hlt⟩
    obtain ⟨r, hr, hcl⟩ := hcl
    rcases hr with rfl | rfl
    all_goals refine aw_sk 10 (by kernel_rfl) ?_
    all_goals refine aw_sc (decide ((i : Int) < ((l.map rowPu).length : Int))) (by kernel_rfl) (fun _ => ?_) (fun h => absurd (of_decide_eq_false h) (by rw [List.length_map]; omega))
    all_goals refine aw_sskip (aw_seq (aw_block (aw_sr ?_)))
    all_goals refine ow_at (rows := l.map rowPu) (nl := nl2) (own := own2) (row := rowPu l[i]) (n := i) (e := 48) (row_at _ _ _ hi) (by omega) (by kernel_rfl) (by kernel_rfl) (by kernel_rfl) (by kernel_rfl) (by kernel_rfl) (by kernel_rfl) ?_
    all_goals refine ow_k 2 10 (by kernel_rfl) ?_
    all_goals refine ow_st 8 0 [I64 0, ST []] (.agg (rowPu l[i])) (by kernel_rfl) (by kernel_rfl) (by kernel_rfl) (by kernel_rfl) (by kernel_rfl) (by kernel_rfl) (by kernel_rfl) ?_
    all_goals refine ow_all 10 (by kernel_rfl) ?_
    all_goals refine aw_region (ow_k 2 10 (by kernel_rfl) ?_)
    all_goals refine ow_ld 8 0 (rowPu l[i]) (.agg (rowPu l[i])) (by kernel_rfl) (by kernel_rfl) (by kernel_rfl) (by kernel_rfl) (by kernel_rfl) (by kernel_rfl) ?_
    all_goals refine ow_callG (k := 47) (first := []) (captured := []) (xs := [BSl (bs ++ encN (l.length : Nat) ++ encL encPu (l.take i)) false o, .agg (rowPu l[i])]) (by kernel_rfl) (by kernel_rfl) (by kernel_rfl) (by kernel_rfl) (by kernel_rfl) (by kernel_rfl) hcl (by kernel_rfl) (by kernel_rfl) ?_
    all_goals refine ow_all 10 (by kernel_rfl) ?_
    all_goals refine aw_rk 10 (by kernel_rfl) ?_
    · exact isN_at (l' := [(2, .fn (.func 47) [] []), (13, .slice (l.map rowPu) nl2 own2), (14, I64 (l.map rowPu).length), (15, I64 (IntKind.i64.wrap ((i : Int) + 1)))]) (o := .no) (rows' := bsA (bs ++ encN (l.length : Nat) ++ encL encPu (l.take i) ++ encPu l[i])) (by rw [succ64 (by omega)]) (by kernel_rfl) (by rw [encL_take _ _ _ hi]; simp only [List.append_assoc]) (.inl rfl)
    · exact isN_at (l' := [(2, .fn (.func 47) [] []), (13, .slice (l.map rowPu) nl2 own2), (14, I64 (l.map rowPu).length), (15, I64 (IntKind.i64.wrap ((i : Int) + 1)))]) (o := .id (c + 64 * 1 + 64 * 4 + 64 * 3)) (rows' := bsA (bs ++ encN (l.length : Nat) ++ encL encPu (l.take i) ++ encPu l[i])) (by rw [succ64 (by omega)]) (by kernel_rfl) (by rw [encL_take _ _ _ hi]; simp only [List.append_assoc]) (.inr ⟨_, rfl⟩)
  · rintro F ⟨t, c, al, o, rfl, ho⟩
    rw [List.take_length]
    refine aw_sk 10 (by kernel_rfl) ?_
    refine aw_sc (decide ((l.length : Int) < ((l.map rowPu).length : Int))) (by kernel_rfl) (fun h => absurd (of_decide_eq_true h) (by rw [List.length_map]; omega)) (fun _ => ?_)
    refine aw_sexit ?_
    dsimp only [Then, InBlock, if_true]
    refine aw_sk 10 (by kernel_rfl) ?_
    refine aw_ret ?_
    obtain ⟨o', ho', hl⟩ := leave_ni ho (rows := bsA (bs ++ encN (l.length : Nat) ++ encL encPu l)) (al := al)
    refine ⟨.inr rfl, [BSl (bs ++ encN (l.length : Nat) ++ encL encPu l) false o], by kernel_rfl, by kernel_rfl, ⟨o', ho', ?_⟩, by kernel_rfl⟩
    rw [encR, ← List.append_assoc]
    exact Eq.trans (by kernel_rfl) hl
theorem row43 (bs : BS) (o0 : Own) (nl0 : Bool) (hnl0 : nl0 = true → bs = []) (l : List Int) (nl2 : Bool) (own2 : Own) (hb : bs.length + 40000 * l.length ≤ 1071000000) :
    ∃ o, NF o ∧ evK cfg17 43 [BSl bs nl0 o0, .slice (l.map rowN) nl2 own2, .fn (.func 38) [] []] [] = some ((BSl (bs ++ encR encN l) false o, [])) := by
  have hK : ∀ x : Int, (encN x).length ≤ 40000 := fun x => by rw [encN_len]; omega
  have hlen : ∀ i, (encL encN (l.take i)).length ≤ 40000 * l.length := fun i => by
    have h1 := encL_len encN 40000 hK (l.take i)
    have h2 : 40000 * (l.take i).length ≤ 40000 * l.length := Nat.mul_le_mul_left _ (by rw [List.length_take]; omega)
    omega
  have hnum : callQ cfg17 (evK cfg17) 38 [strip (BSl bs nl0 o0), I64 ((l.map rowN).length : Nat)] = some (BSl (bs ++ encN (l.length : Nat)) false .fresh) := by
    rw [List.length_map]
    cases o0 <;> exact number_spec bs nl0 _ _ (by omega) hnl0
  suffices h : ∃ r H', evK cfg17 43 [BSl bs nl0 o0, .slice (l.map rowN) nl2 own2, .fn (.func 38) [] []] [] = some (r, H') ∧ (∃ o, NF o ∧ r = BSl (bs ++ encR encN l) false o) ∧ H' = [] by
    obtain ⟨r, H', h, ⟨o, ho, rfl⟩, rfl⟩ := h
    exact ⟨o, ho, h⟩
  refine evK_ofE (P := fun r H' => (∃ o, NF o ∧ r = BSl (bs ++ encR encN l) false o) ∧ H' = []) Tryd.func43 rfl (of_decide_eq_true (by kernel_rfl)) (by kernel_rfl) (by kernel_rfl) rfl ?_
  unfold Tryd.f43
  dsimp only
  refine aw_sk 10 (by kernel_rfl) ?_
  refine aw_sr (ow_k 3 10 (by kernel_rfl) ?_)
  refine ow_callG (k := 38) (first := []) (captured := []) (xs := [BSl bs nl0 o0, I64 ((l.map rowN).length : Nat)]) (r := BSl (bs ++ encN (l.length : Nat)) false .fresh) (by kernel_rfl) (by kernel_rfl) (by kernel_rfl) (by kernel_rfl) (by kernel_rfl) (by kernel_rfl) hnum (by kernel_rfl) (by kernel_rfl) ?_
  refine ow_all 10 (by kernel_rfl) ?_
  refine aw_assoc (aw_sk 10 (by kernel_rfl) ?_)
  refine aw_sfor l.length (fun i => IsN 25 [] (cfg17.heap 43) 0 (bsA (bs ++ encN (l.length : Nat) ++ encL encN (l.take i))) [(2, .fn (.func 38) [] []), (13, .slice (l.map rowN) nl2 own2), (14, I64 (l.map rowN).length), (15, I64 (i : Nat))]) ?_ ?_ ?_
  · exact isN_of (o := .id 256) (rows' := bsA (bs ++ encN (l.length : Nat))) (by kernel_rfl) (by simp [encL]) (.inr ⟨_, rfl⟩)
  · rintro i F hi ⟨t, c, al, o, rfl, ho⟩
    have hlt : (bs ++ encN (l.length : Nat) ++ encL encN (l.take i)).length ≤ 1072000000 := by
      have := hlen i
      simp only [List.length_append, encN_len]
      omega
    have hcl : ∃ r, NF r ∧ callQ cfg17 (evK cfg17) 38 [strip (BSl (bs ++ encN (l.length : Nat) ++ encL encN (l.take i)) false o), I64 l[i]] = some (BSl (bs ++ encN (l.length : Nat) ++ encL encN (l.take i) ++ encN l[i]) false r) := by
      rw [strip_ni ho]
      exact ⟨_, .inr rfl, number_spec _ false .no _ (by omega) (fun h => by cases h)⟩
    obtain ⟨r, hr, hcl⟩ := hcl
    rcases hr with rfl | rfl
    all_goals refine aw_sk 10 (by kernel_rfl) ?_
    all_goals refine aw_sc (decide ((i : Int) < ((l.map rowN).length : Int))) (by kernel_rfl) (fun _ => ?_) (fun h => absurd (of_decide_eq_false h) (by rw [List.length_map]; omega))
    all_goals refine aw_sskip (aw_seq (aw_block (aw_sr ?_)))
    all_goals refine ow_at (rows := l.map rowN) (nl := nl2) (own := own2) (row := rowN l[i]) (n := i) (e := 3) (row_at _ _ _ hi) (by omega) (by kernel_rfl) (by kernel_rfl) (by kernel_rfl) (by kernel_rfl) (by kernel_rfl) (by kernel_rfl) ?_
    all_goals refine ow_all 10 (by kernel_rfl) ?_
    all_goals refine aw_region (ow_k 3 10 (by kernel_rfl) ?_)
    all_goals refine ow_callG (k := 38) (first := []) (captured := []) (xs := [BSl (bs ++ encN (l.length : Nat) ++ encL encN (l.take i)) false o, I64 l[i]]) (by kernel_rfl) (by kernel_rfl) (by kernel_rfl) (by kernel_rfl) (by kernel_rfl) (by kernel_rfl) hcl (by kernel_rfl) (by kernel_rfl) ?_
    all_goals refine ow_all 10 (by kernel_rfl) ?_
    all_goals refine aw_rk 10 (by kernel_rfl) ?_
    · exact isN_at (l' := [(2, .fn (.func 38) [] []), (13, .slice (l.map rowN) nl2 own2), (14, I64 (l.map rowN).length), (15, I64 (IntKind.i64.wrap ((i : Int) + 1)))]) (o := .no) (rows' := bsA (bs ++ encN (l.length : Nat) ++ encL encN (l.take i) ++ encN l[i])) (by rw [succ64 (by omega)]) (by kernel_rfl) (by rw [encL_take _ _ _ hi]; simp only [List.append_assoc]) (.inl rfl)
    · exact isN_at (l' := [(2, .fn (.func 38) [] []), (13, .slice (l.map rowN) nl2 own2), (14, I64 (l.map rowN).length), (15, I64 (IntKind.i64.wrap ((i : Int) + 1)))]) (o := .id (c + 64 * 1 + 64 * 3 + 64 * 3)) (rows' := bsA (bs ++ encN (l.length : Nat) ++ encL encN (l.take i) ++ encN l[i])) (by rw [succ64 (by omega)]) (by kernel_rfl) (by rw [encL_take _ _ _ hi]; simp only [List.append_assoc]) (.inr ⟨_, rfl⟩)
  · rintro F ⟨t, c, al, o, rfl, ho⟩
    rw [List.take_length]
    refine aw_sk 10 (by kernel_rfl) ?_
    refine aw_sc (decide ((l.length : Int) < ((l.map rowN).length : Int))) (by kernel_rfl) (fun h => absurd (of_decide_eq_true h) (by rw [List.length_map]; omega)) (fun _ => ?_)
    refine aw_sexit ?_
    dsimp only [Then, InBlock, if_true]
    refine aw_sk 10 (by kernel_rfl) ?_
    refine aw_ret ?_
    obtain ⟨o', ho', hl⟩ := leave_ni ho (rows := bsA (bs ++ encN (l.length : Nat) ++ encL encN l)) (al := al)
    refine ⟨.inr rfl, [BSl (bs ++ encN (l.length : Nat) ++ encL encN l) false o], by kernel_rfl, by kernel_rfl, ⟨o', ho', ?_⟩, by kernel_rfl⟩
    rw [encR, ← List.append_assoc]
    exact Eq.trans (by kernel_rfl) hl
end Go.Proofs.V
namespace Go.Proofs.V
open Go Go.Proofs Go.Proofs.V.Wire
set_option linter.unusedVariables false
set_option linter.unusedSimpArgs false
set_option maxRecDepth 100000
set_option maxHeartbeats 1000000
theorem row46 (bs : BS) (l : List BS) (nl2 : Bool) (own2 : Own) (h256 : l.length ≤ 256) (hb : bs.length + 40000 * l.length ≤ 1071000000) :
    ∃ o, NF o ∧ callQ cfg17 (evK cfg17) 46 [BSl bs false .no, .slice (l.map rowS) nl2 own2] = some (BSl (bs ++ encR encS l) false o) := by
  have hK : ∀ x : BS, (encS x).length ≤ 40000 := fun x => by have := encS_len x; omega
  have hlen : ∀ i, (encL encS (l.take i)).length ≤ 40000 * l.length := fun i => by
    have h1 := encL_len encS 40000 hK (l.take i)
    have h2 : 40000 * (l.take i).length ≤ 40000 * l.length := Nat.mul_le_mul_left _ (by rw [List.length_take]; omega)
    omega
  have hnum : callQ cfg17 (evK cfg17) 38 [BSl bs false .no, I64 ((l.map rowS).length : Nat)] = some (BSl (bs ++ encN (l.length : Nat)) false .fresh) := by
    rw [List.length_map]
    exact number_spec bs false _ _ (by omega) (fun h => by cases h)
  have hall : ∀ r ∈ l.map rowS, r.length = 1 := by
    intro r hr
    obtain ⟨s, _, rfl⟩ := List.mem_map.1 hr
    rfl
  suffices h : ∃ r H', evK cfg17 46 [BSl bs false .no, .slice (l.map rowS) nl2 own2] [] = some (r, H') ∧ (∃ o, NF o ∧ r = BSl (bs ++ encR encS l) false o) ∧ H' = [] by
    obtain ⟨r, H', h, ⟨o, ho, rfl⟩, rfl⟩ := h
    exact ⟨o, ho, callQ_of (by kernel_rfl) h⟩
  refine evK_ofE (P := fun r H' => (∃ o, NF o ∧ r = BSl (bs ++ encR encS l) false o) ∧ H' = []) Tryd.func46 rfl (of_decide_eq_true (by kernel_rfl)) (by kernel_rfl) (by kernel_rfl) rfl ?_
  unfold Tryd.f46
  dsimp only
  refine aw_sk 10 (by kernel_rfl) ?_
  refine aw_sr (ow_k 4 10 (by kernel_rfl) ?_)
  have hu : (if (256 : Int) < ((l.map rowS).length : Int) then (256 : Int) else ((l.map rowS).length : Int)) = ((l.map rowS).length : Nat) := if_neg (by rw [List.length_map]; omega)
  refine ow_sube (rows := l.map rowS) (nl := nl2) (own := own2) (el := 9) (sz := 1) (l := 0) (u := if (256 : Int) < ((l.map rowS).length : Int) then (256 : Int) else ((l.map rowS).length : Int)) (l.map rowS) (by rw [hu, Int.toNat_natCast, List.take_length, Int.toNat_zero, List.drop_zero]) (by omega) (by split <;> omega) (by split <;> omega) hall (by kernel_rfl) (by kernel_rfl) (by kernel_rfl) (by kernel_rfl) (by kernel_rfl) (by kernel_rfl) (by kernel_rfl) ?_
  refine ow_all 10 (by kernel_rfl) ?_
  refine aw_sr (ow_k 3 10 (by kernel_rfl) ?_)
  refine ow_callG (k := 38) (first := []) (captured := []) (xs := [BSl bs false .no, I64 ((l.map rowS).length : Nat)]) (r := BSl (bs ++ encN (l.length : Nat)) false .fresh) (by kernel_rfl) (by kernel_rfl) (by kernel_rfl) (by kernel_rfl) (by kernel_rfl) (by kernel_rfl) hnum (by kernel_rfl) (by kernel_rfl) ?_
  refine ow_all 10 (by kernel_rfl) ?_
  refine aw_assoc (aw_sk 10 (by kernel_rfl) ?_)
  refine aw_sfor l.length (fun i => IsN 28 [] (cfg17.heap 46) 5 (bsA (bs ++ encN (l.length : Nat) ++ encL encS (l.take i))) [(17, .slice (l.map rowS) nl2 .no), (18, I64 (l.map rowS).length), (19, I64 (i : Nat))]) ?_ ?_ ?_
  · exact isN_of (o := .id 640) (rows' := bsA (bs ++ encN (l.length : Nat))) (by kernel_rfl) (by simp [encL]) (.inr ⟨_, rfl⟩)
  · rintro i F hi ⟨t, c, al, o, rfl, ho⟩
    have hlt : (bs ++ encN (l.length : Nat) ++ encL encS (l.take i)).length ≤ 1072000000 := by
      have := hlen i
      simp only [List.length_append, encN_len]
      omega
    have hcl : callQ cfg17 (evK cfg17) 70 [strip (BSl (bs ++ encN (l.length : Nat) ++ encL encS (l.take i)) false o), ST l[i]] = some (BSl (bs ++ encN (l.length : Nat) ++ encL encS (l.take i) ++ encS l[i]) false .fresh) := by
      rw [strip_ni ho]
      exact string_spec _ false .no _ (by omega) (fun h => by cases h)
    refine aw_sk 10 (by kernel_rfl) ?_
    refine aw_sc (decide ((i : Int) < ((l.map rowS).length : Int))) (by kernel_rfl) (fun _ => ?_) (fun h => absurd (of_decide_eq_false h) (by rw [List.length_map]; omega))
    refine aw_sskip (aw_seq (aw_block (aw_sr ?_)))
    refine ow_at (rows := l.map rowS) (nl := nl2) (own := .no) (row := rowS l[i]) (n := i) (e := 9) (row_at _ _ _ hi) (by omega) (by kernel_rfl) (by kernel_rfl) (by kernel_rfl) (by kernel_rfl) (by kernel_rfl) (by kernel_rfl) ?_
    refine ow_all 10 (by kernel_rfl) ?_
    refine aw_region (ow_k 2 10 (by kernel_rfl) ?_)
    refine ow_callG (k := 70) (first := []) (captured := []) (xs := [BSl (bs ++ encN (l.length : Nat) ++ encL encS (l.take i)) false o, ST l[i]]) (by kernel_rfl) (by kernel_rfl) (by kernel_rfl) (by kernel_rfl) (by kernel_rfl) (by kernel_rfl) hcl (by kernel_rfl) (by kernel_rfl) ?_
    refine ow_all 10 (by kernel_rfl) ?_
    refine aw_rk 10 (by kernel_rfl) ?_
    exact isN_at (l' := [(17, .slice (l.map rowS) nl2 .no), (18, I64 (l.map rowS).length), (19, I64 (IntKind.i64.wrap ((i : Int) + 1)))]) (o := .id (c + 64 * 1 + 64 * 3 + 64 * 2)) (rows' := bsA (bs ++ encN (l.length : Nat) ++ encL encS (l.take i) ++ encS l[i])) (by rw [succ64 (by omega)]) (by kernel_rfl) (by rw [encL_take _ _ _ hi]; simp only [List.append_assoc]) (.inr ⟨_, rfl⟩)
  · rintro F ⟨t, c, al, o, rfl, ho⟩
    rw [List.take_length]
    refine aw_sk 10 (by kernel_rfl) ?_
    refine aw_sc (decide ((l.length : Int) < ((l.map rowS).length : Int))) (by kernel_rfl) (fun h => absurd (of_decide_eq_true h) (by rw [List.length_map]; omega)) (fun _ => ?_)
    refine aw_sexit ?_
    dsimp only [Then, InBlock, if_true]
    refine aw_sk 10 (by kernel_rfl) ?_
    refine aw_ret ?_
    obtain ⟨o', ho', hl⟩ := leave_ni ho (rows := bsA (bs ++ encN (l.length : Nat) ++ encL encS l)) (al := al)
    refine ⟨.inr rfl, [BSl (bs ++ encN (l.length : Nat) ++ encL encS l) false o], by kernel_rfl, by kernel_rfl, ⟨o', ho', ?_⟩, by kernel_rfl⟩
    rw [encR, ← List.append_assoc]
    exact Eq.trans (by kernel_rfl) hl

/-- A state, as a value: whether its slices are nil, besides. -/
structure Nl where
  tree : Bool
  arch : Bool
  own : Bool
  shown : Bool
  theirs : Bool
  conf : Bool
  waits : Bool
  treeO : Own
  archO : Own
  ownO : Own
  shownO : Own
  theirsO : Own
  confO : Own
  waitsO : Own
/-- Nobody's marks. -/
def OkO (o : Own) : Prop := o = .no ∨ o = .full
structure OkZ (z : Nl) : Prop where
  tree : OkO z.treeO
  arch : OkO z.archO
  own : OkO z.ownO
  shown : OkO z.shownO
  theirs : OkO z.theirsO
  conf : OkO z.confO
  waits : OkO z.waitsO
theorem strip_ok {o : Own} (h : OkO o) (rows : List (List AV)) (nl : Bool) : strip (.slice rows nl o) = .slice rows nl o := by
  rcases h with rfl | rfl <;> rfl
theorem strip1_ok {o : Own} (h : OkO o) (rows : List (List AV)) (nl : Bool) : strip1 (.slice rows nl o) = .slice rows nl o := by
  rcases h with rfl | rfl <;> rfl
def cellsSt (s : Stt) (z : Nl) : List AV :=
  [I64 s.1, .slice (s.2.1.map rowFi) z.tree z.treeO, .slice (s.2.2.1.map rowEn) z.arch z.archO, I64 s.2.2.2.1.1, I64 s.2.2.2.1.2.1, I64 s.2.2.2.1.2.2.1, I64 s.2.2.2.1.2.2.2, .slice (s.2.2.2.2.1.map rowN) z.own z.ownO, .slice (s.2.2.2.2.2.1.map rowEn) z.shown z.shownO, BO s.2.2.2.2.2.2.1, I64 s.2.2.2.2.2.2.2.1.1, I64 s.2.2.2.2.2.2.2.1.2.1, I64 s.2.2.2.2.2.2.2.1.2.2.1, I64 s.2.2.2.2.2.2.2.1.2.2.2, .slice (s.2.2.2.2.2.2.2.2.1.map rowEn) z.theirs z.theirsO, .slice (s.2.2.2.2.2.2.2.2.2.1.map rowS) z.conf z.confO, .slice (s.2.2.2.2.2.2.2.2.2.2.1.map rowPu) z.waits z.waitsO, BO s.2.2.2.2.2.2.2.2.2.2.2]
theorem strip1_st (s : Stt) {z : Nl} (hz : OkZ z) : (cellsSt s z).map strip1 = cellsSt s z := by
  simp only [cellsSt, List.map_cons, List.map_nil, strip1_ok hz.tree, strip1_ok hz.arch, strip1_ok hz.own, strip1_ok hz.shown, strip1_ok hz.theirs, strip1_ok hz.conf, strip1_ok hz.waits]
  rfl
theorem strip_st (s : Stt) {z : Nl} (hz : OkZ z) : strip (.agg (cellsSt s z)) = .agg (cellsSt s z) := congrArg AV.agg (strip1_st s hz)
/-- Its rows are short. -/
def Short (s : Stt) : Prop := s.2.1.length ≤ 300 ∧ s.2.2.1.length ≤ 300 ∧ s.2.2.2.2.1.length ≤ 300 ∧ s.2.2.2.2.2.1.length ≤ 300 ∧ s.2.2.2.2.2.2.2.2.1.length ≤ 300 ∧ s.2.2.2.2.2.2.2.2.2.1.length ≤ 256 ∧ s.2.2.2.2.2.2.2.2.2.2.1.length ≤ 300
end Go.Proofs.V
namespace Go.Proofs.V
open Go Go.Proofs Go.Proofs.V.Wire
set_option linter.unusedVariables false
set_option linter.unusedSimpArgs false
theorem ow_callDS {cfg : Cfg} {F : St} {Q : St → Prop} {ds : List Nat} {all : Array Oper} {rest : List Oper} {lab : Nat} {type : TypeId} {pos : String} {after : Array Edge} {g : Option (Nat × Bool)} {d : Nat} {f : Operand} {args : Array Operand} {ts : Array TypeId} {k : Nat} {first captured xs : List AV} {r v : AV} (hr : callQ cfg (evK cfg) k (xs.map strip) = some r) (hv : strip r = v) (hg : guardA all { dst := some d, op := .call { callee := .value f, args, argTypes := ts }, type, pos, after, guard := g } F = some true) (hf : F.ev f = .fn (.func k) first captured)
    (has : first ++ evs F args.toList ++ captured = xs) (ha : xs.all AV.free = true) (he : cfg.eff k = false) (hH : (F.H.isEmpty || (xs.map strip).all (nohp 9)) = true) (hd : Nat.blt d F.n = true)
    (h : Ow cfg true ds all rest (lab + 64) { F with t := upd F.t d v } Q) : Ow cfg true ds all ({ dst := some d, op := .call { callee := .value f, args, argTypes := ts }, type, pos, after, guard := g } :: rest) lab F Q := by
  subst hv
  exact ow_callDG hg hf has ha he hH hr hd h
theorem bytesOf_bsA : ∀ bs : BS, bytesOf (bsA bs) = some bs
  | [] => rfl
  | b :: bs => by
    have h := bytesOf_bsA bs
    simp only [bsA] at h
    simp only [bsA, List.map_cons, rowOfByte, bytesOf, h, Option.map_some]
    congr 2
    apply UInt8.toNat_inj.1
    have := b.toNat_lt
    simp
/-- Bytes as a string. -/
theorem ow_toS {cfg : Cfg} {F : St} {Q : St → Prop} {draw : Bool} {ds : List Nat} {all : Array Oper} {rest : List Oper} {lab : Nat} {type : TypeId} {pos : String} {after : Array Edge} {g : Option (Nat × Bool)} {d : Nat} {s t e : TypeId} {x : Operand} {bs : BS} {nl : Bool} {own : Own} (hx : F.ev x = BSl bs nl own) (he : tel cfg.P s = some e) (h8 : isU8 cfg.P e = true) (hs : isStr cfg.P t = true)
    (hg : guardA all { dst := some d, op := .convert s t x, type, pos, after, guard := g } F = some true) (hd : Nat.blt d F.n = true)
    (h : Ow cfg draw ds all rest (lab + 64) { F with t := upd F.t d (ST bs) } Q) : Ow cfg draw ds all ({ dst := some d, op := .convert s t x, type, pos, after, guard := g } :: rest) lab F Q := by
  refine ow_val rfl hg rfl ?_ hd h
  simp only [quiet, hx, convA, he, hs, h8, if_true, bytesOf_bsA, Option.map_some]
theorem encR_len {α : Type} (c : α → BS) (hK : ∀ x, (c x).length ≤ 40000) (l : List α) (h : l.length ≤ 300) : (encR c l).length ≤ 12000004 := by
  have := encL_len c 40000 hK l
  simp only [encR, List.length_append, encN_len]
  omega
theorem encFi_len (x : Fi) : (encFi x).length ≤ 40000 := by have h1 := encS_len x.1; have h2 := encS_len x.2; simp only [encFi, List.length_append]; omega
theorem encEn_len (x : En) : (encEn x).length ≤ 40000 := by have h1 := encS_len x.1; have h2 := encS_len x.2.2.1; simp only [encEn, encB, List.length_append, encN_len]; omega
theorem encPu_len (x : Pu) : (encPu x).length ≤ 40000 := by have h2 := encS_len x.2; simp only [encPu, List.length_append, encN_len]; omega
set_option maxRecDepth 100000 in
set_option maxHeartbeats 1000000 in
theorem bytes11 (s : Stt) (z : Nl) (hs : Short s) (hz : OkZ z) : evK cfg17 11 [.agg (cellsSt s z)] [] = some (ST (encSt s), []) := by
  obtain ⟨a, tr, ar, ch, ow, sh, tu, pe, th, co, wa, ha⟩ := s
  obtain ⟨s1, s2, s3, s4, s5, s6, s7⟩ := hs
  dsimp only at s1 s2 s3 s4 s5 s6 s7
  have e1 := encR_len encFi encFi_len tr s1
  have e2 := encR_len encEn encEn_len ar s2
  have e3 : (encCu ch).length = 16 := rfl
  have e4 := encR_len encN (fun x => by rw [encN_len]; omega) ow s3
  have e5 := encR_len encEn encEn_len sh s4
  have e6 : (encB tu).length = 4 := rfl
  have e7 : (encCu pe).length = 16 := rfl
  have e8 := encR_len encEn encEn_len th s5
  have e9 := encR_len encS (fun x => by have := encS_len x; omega) co (by omega)
  have e10 := encR_len encPu encPu_len wa s7
  have B0 : (encN a).length = 4 := rfl
  have h0 := number_spec [] true .full a (by simp) (fun _ => rfl)
  obtain ⟨o1, ho1, h1⟩ := row37 (encN a) .no false (fun h => by cases h) tr z.tree z.treeO (by simp only [List.length_append, B0]; omega)
  obtain ⟨o2, ho2, h2⟩ := row41 (encN a ++ encR encFi tr) .no false (fun h => by cases h) ar z.arch z.archO (by simp only [List.length_append, B0]; omega)
  have h3 := cursor40 (encN a ++ encR encFi tr ++ encR encEn ar) ch (by simp only [List.length_append, B0]; omega)
  obtain ⟨o4, ho4, h4⟩ := row43 (encN a ++ encR encFi tr ++ encR encEn ar ++ encCu ch) .no false (fun h => by cases h) ow z.own z.ownO (by simp only [List.length_append, B0]; omega)
  obtain ⟨o5, ho5, h5⟩ := row41 (encN a ++ encR encFi tr ++ encR encEn ar ++ encCu ch ++ encR encN ow) .no false (fun h => by cases h) sh z.shown z.shownO (by simp only [List.length_append, B0]; omega)
  have h6 := flag44 (encN a ++ encR encFi tr ++ encR encEn ar ++ encCu ch ++ encR encN ow ++ encR encEn sh) false .no tu (by simp only [List.length_append, B0]; omega) (fun h => by cases h)
  have h7 := cursor40 (encN a ++ encR encFi tr ++ encR encEn ar ++ encCu ch ++ encR encN ow ++ encR encEn sh ++ encB tu) pe (by simp only [List.length_append, B0]; omega)
  obtain ⟨o8, ho8, h8⟩ := row41 (encN a ++ encR encFi tr ++ encR encEn ar ++ encCu ch ++ encR encN ow ++ encR encEn sh ++ encB tu ++ encCu pe) .no false (fun h => by cases h) th z.theirs z.theirsO (by simp only [List.length_append, B0]; omega)
  obtain ⟨o9, ho9, h9⟩ := row46 (encN a ++ encR encFi tr ++ encR encEn ar ++ encCu ch ++ encR encN ow ++ encR encEn sh ++ encB tu ++ encCu pe ++ encR encEn th) co z.conf z.confO s6 (by simp only [List.length_append, B0]; omega)
  obtain ⟨o10, ho10, h10⟩ := row45 (encN a ++ encR encFi tr ++ encR encEn ar ++ encCu ch ++ encR encN ow ++ encR encEn sh ++ encB tu ++ encCu pe ++ encR encEn th ++ encR encS co) .no false (fun h => by cases h) wa z.waits z.waitsO (by simp only [List.length_append, B0]; omega)
  have h11 := flag44 (encN a ++ encR encFi tr ++ encR encEn ar ++ encCu ch ++ encR encN ow ++ encR encEn sh ++ encB tu ++ encCu pe ++ encR encEn th ++ encR encS co ++ encR encPu wa) false .no ha (by simp only [List.length_append, B0]; omega) (fun h => by cases h)
  refine evK_of Tryd.func11 rfl (of_decide_eq_true (by kernel_rfl)) (by kernel_rfl) (by kernel_rfl) rfl ?_
  unfold Tryd.f11
  dsimp only
  refine aw_sk 10 (by kernel_rfl) ?_
  refine aw_absE 45 [] [] (cfg17.heap 11) [(1, .box 0 (cellsSt (a, tr, ar, ch, ow, sh, tu, pe, th, co, wa, ha) z))] [(1, .box 0 ((cellsSt (a, tr, ar, ch, ow, sh, tu, pe, th, co, wa, ha) z).map strip1))] (by rw [strip1_st _ hz]) rfl (by kernel_rfl) (fun t9 c9 al9 => ?_)
  refine aw_sr (ow_k 2 10 (by kernel_rfl) ?_)
  refine ow_callDS (k := 38) (first := []) (captured := []) (xs := [.slice [] true .full, I64 a]) (v := BSl (encN a) false .no) h0 (by rfl) (by kernel_rfl) (by kernel_rfl) (by kernel_rfl) (by kernel_rfl) (by kernel_rfl) (by kernel_rfl) (by kernel_rfl) ?_
  refine ow_k 2 10 (by kernel_rfl) ?_
  refine ow_callDS (k := 37) (first := []) (captured := []) (xs := [BSl (encN a) false .no, .slice (tr.map rowFi) z.tree z.treeO, .fn (.func 39) [] []]) (v := BSl (encN a ++ encR encFi tr) false .no) (by simp only [List.map_cons, List.map_nil, strip_ok hz.tree, strip_ok hz.arch, strip_ok hz.own, strip_ok hz.shown, strip_ok hz.theirs, strip_ok hz.conf, strip_ok hz.waits]; exact h1) (strip_nf ho1) (by kernel_rfl) (by kernel_rfl) (by kernel_rfl) (by kernel_rfl) (by kernel_rfl) (by kernel_rfl) (by kernel_rfl) ?_
  refine ow_all 10 (by kernel_rfl) ?_
  refine aw_abs 45 [] (cfg17.heap 11) [(1, .box 0 (cellsSt (a, tr, ar, ch, ow, sh, tu, pe, th, co, wa, ha) z)), (3, BSl (encN a ++ encR encFi tr) false .no)] (by kernel_rfl) (fun t0 c0 al0 => ?_)
  refine aw_sr (ow_k 3 10 (by kernel_rfl) ?_)
  refine ow_callDS (k := 41) (first := []) (captured := []) (xs := [BSl (encN a ++ encR encFi tr) false .no, .slice (ar.map rowEn) z.arch z.archO, .fn (.func 42) [] []]) (v := BSl (encN a ++ encR encFi tr ++ encR encEn ar) false .no) (by simp only [List.map_cons, List.map_nil, strip_ok hz.tree, strip_ok hz.arch, strip_ok hz.own, strip_ok hz.shown, strip_ok hz.theirs, strip_ok hz.conf, strip_ok hz.waits]; exact h2) (strip_nf ho2) (by kernel_rfl) (by kernel_rfl) (by kernel_rfl) (by kernel_rfl) (by kernel_rfl) (by kernel_rfl) (by kernel_rfl) ?_
  refine ow_k 2 10 (by kernel_rfl) ?_
  refine ow_callDS (k := 40) (first := []) (captured := []) (xs := [BSl (encN a ++ encR encFi tr ++ encR encEn ar) false .no, .agg (cellsCu ch)]) (v := BSl (encN a ++ encR encFi tr ++ encR encEn ar ++ encCu ch) false .no) (by simp only [List.map_cons, List.map_nil, strip_ok hz.tree, strip_ok hz.arch, strip_ok hz.own, strip_ok hz.shown, strip_ok hz.theirs, strip_ok hz.conf, strip_ok hz.waits]; exact h3) (by rfl) (by kernel_rfl) (by kernel_rfl) (by kernel_rfl) (by kernel_rfl) (by kernel_rfl) (by kernel_rfl) (by kernel_rfl) ?_
  refine ow_all 10 (by kernel_rfl) ?_
  refine aw_abs 45 [] (cfg17.heap 11) [(1, .box 0 (cellsSt (a, tr, ar, ch, ow, sh, tu, pe, th, co, wa, ha) z)), (3, BSl (encN a ++ encR encFi tr ++ encR encEn ar ++ encCu ch) false .no)] (by kernel_rfl) (fun t1 c1 al1 => ?_)
  refine aw_sr (ow_k 3 10 (by kernel_rfl) ?_)
  refine ow_callDE (k := 43) (first := []) (captured := []) (xs := [BSl (encN a ++ encR encFi tr ++ encR encEn ar ++ encCu ch) false .no, .slice (ow.map rowN) z.own z.ownO, .fn (.func 38) [] []]) (v := BSl (encN a ++ encR encFi tr ++ encR encEn ar ++ encCu ch ++ encR encN ow) false .no) (by simp only [List.map_cons, List.map_nil, strip_ok hz.tree, strip_ok hz.arch, strip_ok hz.own, strip_ok hz.shown, strip_ok hz.theirs, strip_ok hz.conf, strip_ok hz.waits]; exact h4) (strip_nf ho4) (by kernel_rfl) (by kernel_rfl) (by kernel_rfl) (by kernel_rfl) (by kernel_rfl) (by kernel_rfl) (by kernel_rfl) ?_
  refine ow_k 2 10 (by kernel_rfl) ?_
  refine ow_callDS (k := 41) (first := []) (captured := []) (xs := [BSl (encN a ++ encR encFi tr ++ encR encEn ar ++ encCu ch ++ encR encN ow) false .no, .slice (sh.map rowEn) z.shown z.shownO, .fn (.func 42) [] []]) (v := BSl (encN a ++ encR encFi tr ++ encR encEn ar ++ encCu ch ++ encR encN ow ++ encR encEn sh) false .no) (by simp only [List.map_cons, List.map_nil, strip_ok hz.tree, strip_ok hz.arch, strip_ok hz.own, strip_ok hz.shown, strip_ok hz.theirs, strip_ok hz.conf, strip_ok hz.waits]; exact h5) (strip_nf ho5) (by kernel_rfl) (by kernel_rfl) (by kernel_rfl) (by kernel_rfl) (by kernel_rfl) (by kernel_rfl) (by kernel_rfl) ?_
  refine ow_all 10 (by kernel_rfl) ?_
  refine aw_abs 45 [] (cfg17.heap 11) [(1, .box 0 (cellsSt (a, tr, ar, ch, ow, sh, tu, pe, th, co, wa, ha) z)), (3, BSl (encN a ++ encR encFi tr ++ encR encEn ar ++ encCu ch ++ encR encN ow ++ encR encEn sh) false .no)] (by kernel_rfl) (fun t2 c2 al2 => ?_)
  refine aw_sr (ow_k 3 10 (by kernel_rfl) ?_)
  refine ow_callDS (k := 44) (first := []) (captured := []) (xs := [BSl (encN a ++ encR encFi tr ++ encR encEn ar ++ encCu ch ++ encR encN ow ++ encR encEn sh) false .no, BO tu]) (v := BSl (encN a ++ encR encFi tr ++ encR encEn ar ++ encCu ch ++ encR encN ow ++ encR encEn sh ++ encB tu) false .no) (by simp only [List.map_cons, List.map_nil, strip_ok hz.tree, strip_ok hz.arch, strip_ok hz.own, strip_ok hz.shown, strip_ok hz.theirs, strip_ok hz.conf, strip_ok hz.waits]; exact h6) (by rfl) (by kernel_rfl) (by kernel_rfl) (by kernel_rfl) (by kernel_rfl) (by kernel_rfl) (by kernel_rfl) (by kernel_rfl) ?_
  refine ow_k 2 10 (by kernel_rfl) ?_
  refine ow_callDS (k := 40) (first := []) (captured := []) (xs := [BSl (encN a ++ encR encFi tr ++ encR encEn ar ++ encCu ch ++ encR encN ow ++ encR encEn sh ++ encB tu) false .no, .agg (cellsCu pe)]) (v := BSl (encN a ++ encR encFi tr ++ encR encEn ar ++ encCu ch ++ encR encN ow ++ encR encEn sh ++ encB tu ++ encCu pe) false .no) (by simp only [List.map_cons, List.map_nil, strip_ok hz.tree, strip_ok hz.arch, strip_ok hz.own, strip_ok hz.shown, strip_ok hz.theirs, strip_ok hz.conf, strip_ok hz.waits]; exact h7) (by rfl) (by kernel_rfl) (by kernel_rfl) (by kernel_rfl) (by kernel_rfl) (by kernel_rfl) (by kernel_rfl) (by kernel_rfl) ?_
  refine ow_k 2 10 (by kernel_rfl) ?_
  refine ow_callDS (k := 41) (first := []) (captured := []) (xs := [BSl (encN a ++ encR encFi tr ++ encR encEn ar ++ encCu ch ++ encR encN ow ++ encR encEn sh ++ encB tu ++ encCu pe) false .no, .slice (th.map rowEn) z.theirs z.theirsO, .fn (.func 42) [] []]) (v := BSl (encN a ++ encR encFi tr ++ encR encEn ar ++ encCu ch ++ encR encN ow ++ encR encEn sh ++ encB tu ++ encCu pe ++ encR encEn th) false .no) (by simp only [List.map_cons, List.map_nil, strip_ok hz.tree, strip_ok hz.arch, strip_ok hz.own, strip_ok hz.shown, strip_ok hz.theirs, strip_ok hz.conf, strip_ok hz.waits]; exact h8) (strip_nf ho8) (by kernel_rfl) (by kernel_rfl) (by kernel_rfl) (by kernel_rfl) (by kernel_rfl) (by kernel_rfl) (by kernel_rfl) ?_
  refine ow_all 10 (by kernel_rfl) ?_
  refine aw_abs 45 [] (cfg17.heap 11) [(1, .box 0 (cellsSt (a, tr, ar, ch, ow, sh, tu, pe, th, co, wa, ha) z)), (3, BSl (encN a ++ encR encFi tr ++ encR encEn ar ++ encCu ch ++ encR encN ow ++ encR encEn sh ++ encB tu ++ encCu pe ++ encR encEn th) false .no)] (by kernel_rfl) (fun t3 c3 al3 => ?_)
  refine aw_sr (ow_k 3 10 (by kernel_rfl) ?_)
  refine ow_callDS (k := 46) (first := []) (captured := []) (xs := [BSl (encN a ++ encR encFi tr ++ encR encEn ar ++ encCu ch ++ encR encN ow ++ encR encEn sh ++ encB tu ++ encCu pe ++ encR encEn th) false .no, .slice (co.map rowS) z.conf z.confO]) (v := BSl (encN a ++ encR encFi tr ++ encR encEn ar ++ encCu ch ++ encR encN ow ++ encR encEn sh ++ encB tu ++ encCu pe ++ encR encEn th ++ encR encS co) false .no) (by simp only [List.map_cons, List.map_nil, strip_ok hz.tree, strip_ok hz.arch, strip_ok hz.own, strip_ok hz.shown, strip_ok hz.theirs, strip_ok hz.conf, strip_ok hz.waits]; exact h9) (strip_nf ho9) (by kernel_rfl) (by kernel_rfl) (by kernel_rfl) (by kernel_rfl) (by kernel_rfl) (by kernel_rfl) (by kernel_rfl) ?_
  refine ow_k 2 10 (by kernel_rfl) ?_
  refine ow_callDS (k := 45) (first := []) (captured := []) (xs := [BSl (encN a ++ encR encFi tr ++ encR encEn ar ++ encCu ch ++ encR encN ow ++ encR encEn sh ++ encB tu ++ encCu pe ++ encR encEn th ++ encR encS co) false .no, .slice (wa.map rowPu) z.waits z.waitsO, .fn (.func 47) [] []]) (v := BSl (encN a ++ encR encFi tr ++ encR encEn ar ++ encCu ch ++ encR encN ow ++ encR encEn sh ++ encB tu ++ encCu pe ++ encR encEn th ++ encR encS co ++ encR encPu wa) false .no) (by simp only [List.map_cons, List.map_nil, strip_ok hz.tree, strip_ok hz.arch, strip_ok hz.own, strip_ok hz.shown, strip_ok hz.theirs, strip_ok hz.conf, strip_ok hz.waits]; exact h10) (strip_nf ho10) (by kernel_rfl) (by kernel_rfl) (by kernel_rfl) (by kernel_rfl) (by kernel_rfl) (by kernel_rfl) (by kernel_rfl) ?_
  refine ow_k 2 10 (by kernel_rfl) ?_
  refine ow_callDS (k := 44) (first := []) (captured := []) (xs := [BSl (encN a ++ encR encFi tr ++ encR encEn ar ++ encCu ch ++ encR encN ow ++ encR encEn sh ++ encB tu ++ encCu pe ++ encR encEn th ++ encR encS co ++ encR encPu wa) false .no, BO ha]) (v := BSl (encN a ++ encR encFi tr ++ encR encEn ar ++ encCu ch ++ encR encN ow ++ encR encEn sh ++ encB tu ++ encCu pe ++ encR encEn th ++ encR encS co ++ encR encPu wa ++ encB ha) false .no) (by simp only [List.map_cons, List.map_nil, strip_ok hz.tree, strip_ok hz.arch, strip_ok hz.own, strip_ok hz.shown, strip_ok hz.theirs, strip_ok hz.conf, strip_ok hz.waits]; exact h11) (by rfl) (by kernel_rfl) (by kernel_rfl) (by kernel_rfl) (by kernel_rfl) (by kernel_rfl) (by kernel_rfl) (by kernel_rfl) ?_
  refine ow_toS (bs := encN a ++ encR encFi tr ++ encR encEn ar ++ encCu ch ++ encR encN ow ++ encR encEn sh ++ encB tu ++ encCu pe ++ encR encEn th ++ encR encS co ++ encR encPu wa ++ encB ha) (nl := false) (own := .no) (e := 5) (by kernel_rfl) (by kernel_rfl) (by kernel_rfl) (by kernel_rfl) (by kernel_rfl) (by kernel_rfl) ?_
  refine ow_all 10 (by kernel_rfl) ?_
  refine aw_ret ?_
  have he : encN a ++ encR encFi tr ++ encR encEn ar ++ encCu ch ++ encR encN ow ++ encR encEn sh ++ encB tu ++ encCu pe ++ encR encEn th ++ encR encS co ++ encR encPu wa ++ encB ha = encSt (a, tr, ar, ch, ow, sh, tu, pe, th, co, wa, ha) := by simp only [encSt, List.append_assoc]
  rw [← he]
  exact ⟨.inr rfl, [ST (encN a ++ encR encFi tr ++ encR encEn ar ++ encCu ch ++ encR encN ow ++ encR encEn sh ++ encB tu ++ encCu pe ++ encR encEn th ++ encR encS co ++ encR encPu wa ++ encB ha)], by kernel_rfl, by kernel_rfl, by kernel_rfl, by kernel_rfl⟩
end Go.Proofs.V
