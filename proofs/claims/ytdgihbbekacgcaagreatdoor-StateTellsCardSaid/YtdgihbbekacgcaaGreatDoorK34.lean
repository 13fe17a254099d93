/- The seat of StateTells, StateReads (17): what lies outside of the evaluator; strings.Split. -/
import Derived.Test.YtdgihbbekacgcaaGreatDoorK33
import Derived.Test.YtdgihbbekacgcaaGreatDoorK19
import Derived.Test.YtdgihbbekacgcaaGreatDoorK17
import Derived.KernelRfl
import Derived.Test.YtdgihbbekacgcaaGreatDoorK30
namespace Go.Proofs.V.L17
open Go Go.Proofs Go.Proofs.V.E
set_option linter.unusedVariables false
set_option linter.unusedSimpArgs false
set_option maxRecDepth 100000
set_option maxHeartbeats 1000000
noncomputable def extL (f : Nat) : Option (List AV → Option AV) := if f = 86 then some strExt else if f = 124 then some extCount else if f = 126 then some extIndex else none
def heapL (f t : Nat) : Bool := f == 116 && t == 27
noncomputable def cfgL : Cfg := { P := Tryz.prog, ext := extL, eff := fun _ => false, bad := [], heap := heapL, frz := fun f => f == 116 }
theorem mixed : cfgL.P.follows .mixedOrders = true := by kernel_rfl
theorem ext_ok0 : ∀ g s xs r, extL g = some s → s xs = some r → CSound Tryz.prog g xs [] r [] := by
  intro g s xs r hg hs
  unfold extL at hg
  split at hg
  · rename_i h; subst h
    cases hg
    exact str_csound hs
  split at hg
  · rename_i h; subst h
    cases hg
    exact extCount_sound (P := Tryz.prog) Tryz.func124 (by kernel_rfl) (by kernel_rfl) (by kernel_rfl) (by kernel_rfl) hs
  · split at hg
    · rename_i h; subst h
      cases hg
      exact extIndex_sound (P := Tryz.prog) Tryz.func126 (by kernel_rfl) (by kernel_rfl) (by kernel_rfl) (by kernel_rfl) hs
    · cases hg
theorem ext_ok : ∀ g s xs r, cfgL.ext g = some s → s xs = some r → CSound cfgL.P g xs [] r [] := ext_ok0
theorem index81 (s : BS) : ∃ m : Int, callQ cfgL (evK cfgL) 120 [ST s, ST [47]] = some (I64 m) ∧ m = Lib.indexByte s 47 := by
  have key : ∃ m : Int, callQ cfgL (evK cfgL) 125 [ST s, ST [47]] = some (I64 m) ∧ m = Lib.indexByte s 47 := by
    suffices h : ∃ r H', evK cfgL 125 [ST s, ST [47]] [] = some (r, H') ∧ (∃ m : Int, r = I64 m ∧ m = Lib.indexByte s 47) ∧ H' = [] by
      obtain ⟨r, H', h, ⟨b, rfl, hb⟩, rfl⟩ := h
      exact ⟨b, callQ_of (by kernel_rfl) h, hb⟩
    refine evK_ofE (P := fun r H' => (∃ m : Int, r = I64 m ∧ m = Lib.indexByte s 47) ∧ H' = []) Tryz.func125 rfl (of_decide_eq_true (by kernel_rfl)) (by kernel_rfl) (by kernel_rfl) rfl ?_
    unfold Tryz.f125
    dsimp only
    refine aw_sk 10 (by kernel_rfl) ?_
    refine aw_sk 10 (by kernel_rfl) ?_
    refine aw_seq (aw_block (aw_sk 10 (by kernel_rfl) ?_))
    refine aw_cond (t := ((⟨⟨[47]⟩⟩ : ByteArray).toList == (⟨⟨s⟩⟩ : ByteArray).toList)) (by kernel_rfl) (fun h => ?_) (fun _ => ?_)
    · have hs : s = [47] := by
        have := neS (a := [47]) (b := s)
        rw [h] at this
        exact (by simpa using this.symm : [47] = s).symm
      refine aw_sk 10 (by kernel_rfl) ?_
      refine aw_ret ?_
      exact ⟨.inr rfl, [I64 0], by kernel_rfl, by kernel_rfl, ⟨0, by kernel_rfl, by rw [hs]; decide⟩, by kernel_rfl⟩
    · refine aw_sk 10 (by kernel_rfl) ?_
      refine aw_cond (t := true) (by kernel_rfl) (fun _ => ?_) (fun h => by cases h)
      refine aw_sk 40 (by kernel_rfl) ?_
      refine aw_ret ?_
      exact ⟨.inr rfl, [I64 (Lib.indexByte s 47)], by kernel_rfl, by kernel_rfl, ⟨Lib.indexByte s 47, by kernel_rfl, rfl⟩, by kernel_rfl⟩
  obtain ⟨m, h, hm⟩ := key
  refine ⟨m, callQ_of (by kernel_rfl) ?_, hm⟩
  refine evK_of Tryz.func120 rfl (of_decide_eq_true (by kernel_rfl)) (by kernel_rfl) (by kernel_rfl) rfl ?_
  unfold Tryz.f120
  dsimp only
  refine aw_sk 10 (by kernel_rfl) ?_
  refine aw_sr (ow_k 2 10 (by kernel_rfl) ?_)
  refine ow_callG (k := 125) (first := []) (captured := []) (xs := [ST s, ST [47]]) (r := I64 m) (by kernel_rfl) (by kernel_rfl) (by kernel_rfl) (by kernel_rfl) (by kernel_rfl) (by kernel_rfl) h (by kernel_rfl) (by kernel_rfl) ?_
  refine ow_all 10 (by kernel_rfl) ?_
  refine aw_ret ?_
  exact ⟨.inr rfl, [I64 m], by kernel_rfl, by kernel_rfl, by kernel_rfl, by kernel_rfl⟩
set_option maxHeartbeats 2000000 in
theorem split72 (s : BS) (hs : s.length ≤ 1000000) : ∃ ws : List BS, ws = spl s ∧ evK cfgL 116 [ST s, ST [47], I64 0, I64 (-1)] [] = some (.slice (ws.map rowS) false .no, []) := by
  have hcl : Lib.countByte s 47 ≤ s.length := List.count_le_length
  suffices h : ∃ r, evK cfgL 116 [ST s, ST [47], I64 0, I64 (-1)] [] = some (r, []) ∧ (∃ ws : List BS, ws = spl s ∧ r = .slice (ws.map rowS) false .no) by
    obtain ⟨r, h, ws, h1, rfl⟩ := h
    exact ⟨ws, h1, h⟩
  refine evK_ofZE (P := fun r => ∃ ws : List BS, ws = spl s ∧ r = .slice (ws.map rowS) false .no) Tryz.func116 rfl (of_decide_eq_true (by kernel_rfl)) (by kernel_rfl) (by kernel_rfl) rfl ?_
  unfold Tryz.f116
  dsimp only
  refine aw_sk 10 (by kernel_rfl) ?_
  refine aw_assoc (aw_sk 10 (by kernel_rfl) ?_)
  refine aw_sc false (by kernel_rfl) (fun h => by cases h) (fun _ => ?_)
  refine aw_sskip (aw_assoc (aw_sk 10 (by kernel_rfl) ?_))
  refine aw_sc false (by kernel_rfl) (fun h => by cases h) (fun _ => ?_)
  refine aw_sskip (aw_assoc (aw_sk 10 (by kernel_rfl) ?_))
  refine aw_sc true (by kernel_rfl) (fun _ => ?_) (fun h => by cases h)
  refine aw_sk 60 (by kernel_rfl) ?_
  refine aw_sk 10 (by kernel_rfl) ?_
  have hw1 : IntKind.i64.wrap ((Lib.countByte s 47 : Nat) + 1 : Int) = ((Lib.countByte s 47 + 1 : Nat) : Int) := succ64 (by omega)
  have hw2 : IntKind.i64.wrap ((s.length : Nat) + 1 : Int) = ((s.length + 1 : Nat) : Int) := succ64 (by omega)
  refine aw_absE 66 [] [] (cfgL.heap 116) [(0, ST s), (1, ST [47]), (2, I64 0), (3, I64 (Lib.countByte s 47 + 1 : Nat))]
    [(0, ST s), (1, ST [47]), (2, I64 0), (3, I64 (if IntKind.i64.wrap ((s.length : Nat) + 1 : Int) < IntKind.i64.wrap ((Lib.countByte s 47 : Nat) + 1 : Int) then IntKind.i64.wrap ((s.length : Nat) + 1 : Int) else IntKind.i64.wrap ((Lib.countByte s 47 : Nat) + 1 : Int)))]
    (by rw [hw1, hw2, if_neg (by omega)]) rfl (by kernel_rfl) (fun t1 c1 al1 => ?_)
  generalize hN : Lib.countByte s 47 + 1 = N
  have hN0 : N ≠ 0 := by omega
  have hN1 : N ≤ 1000001 := by omega
  refine aw_sr (ow_k 1 10 (by kernel_rfl) ?_)
  refine ow_mk (n := N) (e := 9) (z := [ST []]) (sz := 1) (by_ := 16) hN0 (by omega) (by omega) (by kernel_rfl) (by kernel_rfl) (by kernel_rfl) (by kernel_rfl) (by kernel_rfl) (by kernel_rfl) (by kernel_rfl) (by kernel_rfl) (by kernel_rfl) (by kernel_rfl) (by kernel_rfl) ?_
  refine ow_all 10 (by kernel_rfl) ?_
  refine aw_sk 10 (by kernel_rfl) ?_
  refine aw_sk 10 (by kernel_rfl) ?_
  have hw3 : IntKind.i64.wrap ((N : Nat) - 1 : Int) = ((N - 1 : Nat) : Int) := by rw [wrapI (by omega) (by omega)]; omega
  refine aw_absE 66 [cells82 N []] [[] ++ (List.replicate N [ST []]).flatten] (cfgL.heap 116) [(0, ST s), (1, ST [47]), (2, I64 0), (3, I64 (N - 1 : Nat)), (9, .hs 0 0 N N 1), (10, I64 0)]
    [(0, ST s), (1, ST [47]), (2, I64 0), (3, I64 (IntKind.i64.wrap ((N : Nat) - 1 : Int))), (9, .hs 0 0 N N 1), (10, I64 0)] (by rw [hw3]) (by simp [cells82]) (by kernel_rfl) (fun t2 c2 al2 => ?_)
  refine aw_sforJ (N - 1) (fun i F => ∃ ws s', Is 66 [cells82 N ws] (cfgL.heap 116) [(0, ST s'), (1, ST [47]), (2, I64 0), (3, I64 (N - 1 : Nat)), (9, .hs 0 0 N N 1), (10, I64 (i : Nat))] F ∧ ws.length = i ∧ ws ++ spl s' = spl s ∧ s'.count 47 + i = N - 1 ∧ s'.length ≤ s.length)
    (fun F => ∃ ws s', Is 66 [cells82 N ws] (cfgL.heap 116) [(0, ST s'), (9, .hs 0 0 N N 1), (10, I64 (ws.length : Nat))] F ∧ ws.length < N ∧ ws ++ [s'] = spl s) ?_ ?_ ?_ ?_
  · exact ⟨[], s, is_of (by kernel_rfl), rfl, by simp, by rw [← hN]; rfl, Nat.le_refl _⟩
  · rintro i F hi ⟨ws, s', ⟨t, c, al, rfl⟩, hwl, hspl, hcnt, hslen⟩
    refine aw_assoc (aw_sk 10 (by kernel_rfl) ?_)
    refine aw_sc (decide ((i : Int) < ((N - 1 : Nat) : Int))) (by kernel_rfl) (fun _ => ?_) (fun h => absurd (of_decide_eq_false h) (by omega))
    obtain ⟨m, hm, hmr⟩ := index81 s'
    obtain ⟨hi1, hi2⟩ := spl_idx s'
    rw [← hmr] at hi1 hi2
    have hlt := indexByte_lt s' 47
    rw [← hmr] at hlt
    refine aw_sskip (aw_block (aw_sr (ow_k 2 10 (by kernel_rfl) ?_)))
    refine ow_callG (k := 120) (first := []) (captured := []) (xs := [ST s', ST [47]]) (r := I64 m) (by kernel_rfl) (by kernel_rfl) (by kernel_rfl) (by kernel_rfl) (by kernel_rfl) (by kernel_rfl) hm (by kernel_rfl) (by kernel_rfl) ?_
    refine ow_all 10 (by kernel_rfl) ?_
    refine aw_assoc (aw_sk 10 (by kernel_rfl) ?_)
    refine aw_sc (decide (m < 0)) (by kernel_rfl) (fun h => ?_) (fun h => ?_)
    · refine aw_sexit ?_
      refine ⟨rfl, ws, s', is_at (l' := [(0, ST s'), (9, .hs 0 0 N N 1), (10, I64 (i : Nat))]) (by rw [hwl]) (by kernel_rfl), by omega, ?_⟩
      rw [← (hi1 (of_decide_eq_true h)).1]
      exact hspl
    have hm0 : 0 ≤ m := by have := of_decide_eq_false h; omega
    have hm1 : m < s'.length := by rcases hlt with h | h <;> omega
    obtain ⟨hd1, hd2⟩ := hi2 hm0
    have hsl : s'.length ≤ 1000000 := by omega
    have hwm : IntKind.i64.wrap (m + 0) = m := by rw [wrapI (by omega) (by omega)]; omega
    have hwm1 : IntKind.i64.wrap (m + 1) = m + 1 := wrapI (by omega) (by omega)
    refine aw_sskip (aw_sr (ow_k 6 10 (by kernel_rfl) ?_))
    refine ow_stre (bs := s') (l := 0) (u := IntKind.i64.wrap (m + 0)) (s'.take m.toNat) (by rw [hwm]; simp) (by omega) (by omega) (by omega) (by kernel_rfl) (by kernel_rfl) (by kernel_rfl) (by kernel_rfl) (by kernel_rfl) (by kernel_rfl) ?_
    refine ow_hat (l := 0) (off := 0) (len := N) (cap := N) (sz := 1) (n := (i : Int)) (e := 9) (by omega) (by omega) (by kernel_rfl) (by kernel_rfl) (by kernel_rfl) (by kernel_rfl) (by kernel_rfl) (by kernel_rfl) ?_
    refine ow_hst (l := 0) (off := 0 + (i : Int).toNat * 1) (row := cells82 N ws) (v := ST (s'.take m.toNat)) (by rw [cells_len N ws (by omega)]; simp [AV.cells]; omega) (by kernel_rfl) (by kernel_rfl) (by kernel_rfl) (by kernel_rfl) (by kernel_rfl) (by kernel_rfl) ?_
    refine ow_nil ?_
    refine aw_absE 66 [cells82 N (ws ++ [s'.take m.toNat])] [splice (cells82 N ws) (0 + (i : Int).toNat * 1) [ST (s'.take m.toNat)]] (cfgL.heap 116) [(0, ST s'), (1, ST [47]), (2, I64 0), (3, I64 (N - 1 : Nat)), (9, .hs 0 0 N N 1), (10, I64 (i : Nat)), (11, I64 m)] _ rfl (by
      rw [← cells_set N ws _ (by omega), hwl]; simp) (by kernel_rfl) (fun t3 c3 al3 => ?_)
    refine aw_sr (ow_k 5 10 (by kernel_rfl) ?_)
    refine ow_stre (bs := s') (l := IntKind.i64.wrap (m + 1)) (u := (s'.length : Int)) (s'.drop (m.toNat + 1)) (by rw [hwm1, show (m + 1).toNat = m.toNat + 1 by omega]; exact List.take_of_length_le (by rw [List.length_drop]; omega)) (by omega) (by omega) (by omega) (by kernel_rfl) (by kernel_rfl) (by kernel_rfl) (by kernel_rfl) (by kernel_rfl) (by kernel_rfl) ?_
    refine ow_all 10 (by kernel_rfl) ?_
    refine aw_rk 10 (by kernel_rfl) ?_
    refine ⟨ws ++ [s'.take m.toNat], s'.drop (m.toNat + 1), is_at (l' := [(0, ST (s'.drop (m.toNat + 1))), (1, ST [47]), (2, I64 0), (3, I64 (N - 1 : Nat)), (9, .hs 0 0 N N 1), (10, I64 (IntKind.i64.wrap ((i : Int) + 1)))]) (by rw [succ64 (by omega)]) (by kernel_rfl), by simp [hwl], ?_, ?_, ?_⟩
    · rw [List.append_assoc, List.singleton_append, ← hd1]; exact hspl
    · omega
    · rw [List.length_drop]; omega
  · rintro F ⟨ws, s', ⟨t, c, al, rfl⟩, hwl, hspl, hcnt, hslen⟩
    have hz : spl s' = [s'] := by
      obtain ⟨hi1, hi2⟩ := spl_idx s'
      by_cases hm : Lib.indexByte s' 47 < 0
      · exact (hi1 hm).1
      · have := (hi2 (by omega)).2
        omega
    rw [hz] at hspl
    refine aw_assoc (aw_sk 10 (by kernel_rfl) ?_)
    refine aw_sc (decide (((N - 1 : Nat) : Int) < ((N - 1 : Nat) : Int))) (by kernel_rfl) (fun h => absurd (of_decide_eq_true h) (by omega)) (fun _ => ?_)
    refine aw_sexit ?_
    exact ⟨rfl, ws, s', is_at (l' := [(0, ST s'), (9, .hs 0 0 N N 1), (10, I64 (N - 1 : Nat))]) (by rw [hwl]) (by kernel_rfl), by omega, hspl⟩
  · rintro F ⟨ws, s', ⟨t, c, al, rfl⟩, hwl, hsum⟩
    have hw5 : IntKind.i64.wrap ((ws.length : Nat) + 1 : Int) = ((ws.length + 1 : Nat) : Int) := succ64 (by omega)
    refine aw_sr (ow_k 3 10 (by kernel_rfl) ?_)
    refine ow_hat (l := 0) (off := 0) (len := N) (cap := N) (sz := 1) (n := (ws.length : Int)) (e := 9) (by omega) (by omega) (by kernel_rfl) (by kernel_rfl) (by kernel_rfl) (by kernel_rfl) (by kernel_rfl) (by kernel_rfl) ?_
    refine ow_hst (l := 0) (off := 0 + (ws.length : Int).toNat * 1) (row := cells82 N ws) (v := ST s') (by rw [cells_len N ws (by omega)]; simp [AV.cells]; omega) (by kernel_rfl) (by kernel_rfl) (by kernel_rfl) (by kernel_rfl) (by kernel_rfl) (by kernel_rfl) ?_
    refine ow_nil ?_
    refine aw_absE 66 [cells82 N (ws ++ [s'])] [splice (cells82 N ws) (0 + (ws.length : Int).toNat * 1) [ST s']] (cfgL.heap 116) [(9, .hs 0 0 N N 1), (10, I64 (ws.length : Nat))] _ rfl (by
      rw [← cells_set N ws _ (by omega)]; simp) (by kernel_rfl) (fun t3 c3 al3 => ?_)
    refine aw_sr (ow_k 3 10 (by kernel_rfl) ?_)
    refine ow_hsl (loc := 0) (off := 0) (len := N) (cap := N) (sz := 1) (l := 0) (u := IntKind.i64.wrap ((ws.length : Nat) + 1 : Int)) (e := 9) (by omega) (by omega) (by omega) (by omega) (by omega) (by kernel_rfl) (by kernel_rfl) (by kernel_rfl) (by kernel_rfl) (by kernel_rfl) (by kernel_rfl) (by kernel_rfl) ?_
    refine ow_all 10 (by kernel_rfl) ?_
    refine aw_ret ?_
    refine ⟨.inr rfl, [.hs 0 (0 + (0 : Int).toNat * 1) ((IntKind.i64.wrap ((ws.length : Nat) + 1 : Int)).toNat - (0 : Int).toNat) (N - (0 : Int).toNat) 1], [.slice ((ws ++ [s']).map rowS) false .no], by kernel_rfl, ?_, ?_, ?_⟩
    · refine Eq.trans (congrArg (fun H => freezeA H _) (show _ = [cells82 N (ws ++ [s'])] by kernel_rfl)) ?_
      have hlen : (cells82 N (ws ++ [s'])).length = N := cells_len N _ (by simp; omega)
      rw [hw5]
      simp only [freezeA, freeze1A, Int.toNat_zero, Nat.zero_mul, Nat.add_zero, Nat.sub_zero, Int.toNat_natCast, List.getElem?_cons_zero, Option.bind_some]
      rw [if_neg (by omega)]
      simp only [rowsOf, hlen, Nat.zero_add, Nat.mul_one]
      rw [if_pos (by omega)]
      simp only [Option.map_some, Option.bind_some]
      congr 2
      apply congrArg (fun x => AV.slice x false Own.no)
      apply List.ext_getElem
      · simp
      · intro k h1 h2
        simp at h1
        have hk : k < (cells82 N (ws ++ [s'])).length := by omega
        have hg : (cells82 N (ws ++ [s']))[k] = ST ((ws ++ [s'])[k]'(by simp; omega)) := by
          simp only [cells82]
          rw [List.getElem_append_left (by simp; omega), List.getElem_map]
        simp only [List.getElem_map, List.getElem_range, rowS]
        rw [List.drop_eq_getElem_cons hk]
        simp [hg]
    · simp [AV.free, nohp, rowS]
    · refine ⟨ws ++ [s'], hsum, ?_⟩
      rfl
theorem split69 (s : BS) (hs : s.length ≤ 1000000) : ∃ ws : List BS, ws = spl s ∧ callQ cfgL (evK cfgL) 113 [ST s, ST [47]] = some (.slice (ws.map rowS) false .no) := by
  obtain ⟨ws, h1, h3⟩ := split72 s hs
  refine ⟨ws, h1, callQ_of (by kernel_rfl) ?_⟩
  replace h3 := callQ_of (show cfgL.ext 116 = none by kernel_rfl) h3
  refine evK_of Tryz.func113 rfl (of_decide_eq_true (by kernel_rfl)) (by kernel_rfl) (by kernel_rfl) rfl ?_
  unfold Tryz.f113
  dsimp only
  refine aw_sk 10 (by kernel_rfl) ?_
  refine aw_sr (ow_k 2 10 (by kernel_rfl) ?_)
  refine ow_callG (k := 116) (first := []) (captured := []) (xs := [ST s, ST [47], I64 0, I64 (-1)]) (r := .slice (ws.map rowS) false .no) (by kernel_rfl) (by kernel_rfl) (by kernel_rfl) (by kernel_rfl) (by kernel_rfl) (by kernel_rfl) h3 (by kernel_rfl) (by kernel_rfl) ?_
  refine ow_all 10 (by kernel_rfl) ?_
  refine aw_ret ?_
  exact ⟨.inr rfl, [.slice (ws.map rowS) false .no], by kernel_rfl, by kernel_rfl, by kernel_rfl, by kernel_rfl⟩
end Go.Proofs.V.L17
namespace Go.Proofs.V.L17
open Go Go.Proofs Go.Proofs.V.E
set_option linter.unusedVariables false
set_option linter.unusedSimpArgs false
set_option maxRecDepth 100000
abbrev nilS : AV := .slice [] true .full
def cloneA (rows : List (List AV)) (nl : Bool) : AV := if nl then nilS else if rows.isEmpty then .slice [] false .full else .slice rows false .fresh
set_option maxRecDepth 100000 in
theorem clone21 (rows : List (List AV)) (nl : Bool) (own : Own) (hall : ∀ r ∈ rows, r.length = 2) (hlen : rows.length * 32 ≤ 35184372088832) (hnl : nl = true → rows = []) : evK cfgL 21 [.slice rows nl own] [] = some (cloneA rows nl, []) := by
  refine evK_of Tryz.func21 rfl (of_decide_eq_true (by kernel_rfl)) (by kernel_rfl) (by kernel_rfl) rfl ?_
  unfold Tryz.f21
  dsimp only
  refine aw_seq (aw_region (ow_all 10 (by kernel_rfl) ?_))
  dsimp only [Then]
  cases nl with
  | true =>
    obtain rfl := hnl rfl
    refine aw_seq (aw_seq (aw_region (ow_all 10 (by kernel_rfl) ?_)))
    dsimp only [Then]
    refine (aw_cond (t := true) (by kernel_rfl) (fun _ => ?_) (fun h => by cases h))
    refine aw_seq (aw_region (ow_all 10 (by kernel_rfl) ?_))
    dsimp only [Then]
    refine aw_ret ?_
    dsimp only [Then]
    exact ⟨.inr rfl, [nilS], by kernel_rfl, by kernel_rfl, by kernel_rfl, by kernel_rfl⟩
  | false =>
    cases rows with
    | nil =>
      refine aw_seq (aw_seq (aw_region (ow_all 10 (by kernel_rfl) ?_)))
      dsimp only [Then]
      refine (aw_cond (t := false) (by kernel_rfl) (fun h => by cases h) (fun _ => ?_))
      refine aw_skip ?_
      dsimp only [Then]
      refine aw_seq (aw_region (ow_all 10 (by kernel_rfl) ?_))
      dsimp only [Then]
      refine aw_ret ?_
      exact ⟨.inr rfl, [.slice [] false .full], by kernel_rfl, by kernel_rfl, by kernel_rfl, by kernel_rfl⟩
    | cons r rs =>
      refine aw_seq (aw_seq (aw_region (ow_all 10 (by kernel_rfl) ?_)))
      dsimp only [Then]
      refine (aw_cond (t := false) (by kernel_rfl) (fun h => by cases h) (fun _ => ?_))
      refine aw_skip ?_
      dsimp only [Then]
      refine aw_seq (aw_region ?_)
      refine ow_run (l := [_, _]) 10 (by kernel_rfl) ?_
      refine ow_appendG (ty := 22) (S := .slice [] false .full) (X := .slice (r :: rs) false own) (by kernel_rfl) (by kernel_rfl) (by kernel_rfl) (by kernel_rfl) (append_full (rows := []) (ys := r :: rs) (e := 38) (sz := 2) (by_ := 32) (z := [ST [], ST []]) (by kernel_rfl) (by kernel_rfl) (by kernel_rfl) (by kernel_rfl) (by simp) hall (by decide) (by simpa using hlen) (by simp at hlen ⊢; omega) (by decide) (by kernel_rfl) rfl (by simp)) (by kernel_rfl) ?_
      refine ow_all 10 (by kernel_rfl) ?_
      dsimp only [Then]
      refine aw_ret ?_
      exact ⟨.inr rfl, [.slice (r :: rs) false (.id 320)], by kernel_rfl, by kernel_rfl, by kernel_rfl, by kernel_rfl⟩
set_option maxRecDepth 100000 in
theorem clone22 (rows : List (List AV)) (nl : Bool) (own : Own) (hall : ∀ r ∈ rows, r.length = 1) (hlen : rows.length * 8 ≤ 35184372088832) (hnl : nl = true → rows = []) : evK cfgL 22 [.slice rows nl own] [] = some (cloneA rows nl, []) := by
  refine evK_of Tryz.func22 rfl (of_decide_eq_true (by kernel_rfl)) (by kernel_rfl) (by kernel_rfl) rfl ?_
  unfold Tryz.f22
  dsimp only
  refine aw_seq (aw_region (ow_all 10 (by kernel_rfl) ?_))
  dsimp only [Then]
  cases nl with
  | true =>
    obtain rfl := hnl rfl
    refine aw_seq (aw_seq (aw_region (ow_all 10 (by kernel_rfl) ?_)))
    dsimp only [Then]
    refine (aw_cond (t := true) (by kernel_rfl) (fun _ => ?_) (fun h => by cases h))
    refine aw_seq (aw_region (ow_all 10 (by kernel_rfl) ?_))
    dsimp only [Then]
    refine aw_ret ?_
    dsimp only [Then]
    exact ⟨.inr rfl, [nilS], by kernel_rfl, by kernel_rfl, by kernel_rfl, by kernel_rfl⟩
  | false =>
    cases rows with
    | nil =>
      refine aw_seq (aw_seq (aw_region (ow_all 10 (by kernel_rfl) ?_)))
      dsimp only [Then]
      refine (aw_cond (t := false) (by kernel_rfl) (fun h => by cases h) (fun _ => ?_))
      refine aw_skip ?_
      dsimp only [Then]
      refine aw_seq (aw_region (ow_all 10 (by kernel_rfl) ?_))
      dsimp only [Then]
      refine aw_ret ?_
      exact ⟨.inr rfl, [.slice [] false .full], by kernel_rfl, by kernel_rfl, by kernel_rfl, by kernel_rfl⟩
    | cons r rs =>
      refine aw_seq (aw_seq (aw_region (ow_all 10 (by kernel_rfl) ?_)))
      dsimp only [Then]
      refine (aw_cond (t := false) (by kernel_rfl) (fun h => by cases h) (fun _ => ?_))
      refine aw_skip ?_
      dsimp only [Then]
      refine aw_seq (aw_region ?_)
      refine ow_run (l := [_, _]) 10 (by kernel_rfl) ?_
      refine ow_appendG (ty := 26) (S := .slice [] false .full) (X := .slice (r :: rs) false own) (by kernel_rfl) (by kernel_rfl) (by kernel_rfl) (by kernel_rfl) (append_full (rows := []) (ys := r :: rs) (e := 3) (sz := 1) (by_ := 8) (z := [I64 0]) (by kernel_rfl) (by kernel_rfl) (by kernel_rfl) (by kernel_rfl) (by simp) hall (by decide) (by simpa using hlen) (by simp at hlen ⊢; omega) (by decide) (by kernel_rfl) rfl (by simp)) (by kernel_rfl) ?_
      refine ow_all 10 (by kernel_rfl) ?_
      dsimp only [Then]
      refine aw_ret ?_
      exact ⟨.inr rfl, [.slice (r :: rs) false (.id 320)], by kernel_rfl, by kernel_rfl, by kernel_rfl, by kernel_rfl⟩
set_option maxRecDepth 100000 in
theorem clone99 (rows : List (List AV)) (nl : Bool) (own : Own) (hall : ∀ r ∈ rows, r.length = 1) (hlen : rows.length * 1 ≤ 35184372088832) (hnl : nl = true → rows = []) : evK cfgL 99 [.slice rows nl own] [] = some (cloneA rows nl, []) := by
  refine evK_of Tryz.func99 rfl (of_decide_eq_true (by kernel_rfl)) (by kernel_rfl) (by kernel_rfl) rfl ?_
  unfold Tryz.f99
  dsimp only
  refine aw_seq (aw_region (ow_all 10 (by kernel_rfl) ?_))
  dsimp only [Then]
  cases nl with
  | true =>
    obtain rfl := hnl rfl
    refine aw_seq (aw_seq (aw_region (ow_all 10 (by kernel_rfl) ?_)))
    dsimp only [Then]
    refine (aw_cond (t := true) (by kernel_rfl) (fun _ => ?_) (fun h => by cases h))
    refine aw_seq (aw_region (ow_all 10 (by kernel_rfl) ?_))
    dsimp only [Then]
    refine aw_ret ?_
    dsimp only [Then]
    exact ⟨.inr rfl, [nilS], by kernel_rfl, by kernel_rfl, by kernel_rfl, by kernel_rfl⟩
  | false =>
    cases rows with
    | nil =>
      refine aw_seq (aw_seq (aw_region (ow_all 10 (by kernel_rfl) ?_)))
      dsimp only [Then]
      refine (aw_cond (t := false) (by kernel_rfl) (fun h => by cases h) (fun _ => ?_))
      refine aw_skip ?_
      dsimp only [Then]
      refine aw_seq (aw_region (ow_all 10 (by kernel_rfl) ?_))
      dsimp only [Then]
      refine aw_ret ?_
      exact ⟨.inr rfl, [.slice [] false .full], by kernel_rfl, by kernel_rfl, by kernel_rfl, by kernel_rfl⟩
    | cons r rs =>
      refine aw_seq (aw_seq (aw_region (ow_all 10 (by kernel_rfl) ?_)))
      dsimp only [Then]
      refine (aw_cond (t := false) (by kernel_rfl) (fun h => by cases h) (fun _ => ?_))
      refine aw_skip ?_
      dsimp only [Then]
      refine aw_seq (aw_region ?_)
      refine ow_run (l := [_, _]) 10 (by kernel_rfl) ?_
      refine ow_appendG (ty := 51) (S := .slice [] false .full) (X := .slice (r :: rs) false own) (by kernel_rfl) (by kernel_rfl) (by kernel_rfl) (by kernel_rfl) (append_full (rows := []) (ys := r :: rs) (e := 5) (sz := 1) (by_ := 1) (z := [.at (.int .u8 0)]) (by kernel_rfl) (by kernel_rfl) (by kernel_rfl) (by kernel_rfl) (by simp) hall (by decide) (by simpa using hlen) (by simp at hlen ⊢; omega) (by decide) (by kernel_rfl) rfl (by simp)) (by kernel_rfl) ?_
      refine ow_all 10 (by kernel_rfl) ?_
      dsimp only [Then]
      refine aw_ret ?_
      exact ⟨.inr rfl, [.slice (r :: rs) false (.id 320)], by kernel_rfl, by kernel_rfl, by kernel_rfl, by kernel_rfl⟩
set_option maxRecDepth 100000 in
theorem clone24 (rows : List (List AV)) (nl : Bool) (own : Own) (hall : ∀ r ∈ rows, r.length = 1) (hlen : rows.length * 16 ≤ 35184372088832) (hnl : nl = true → rows = []) : evK cfgL 24 [.slice rows nl own] [] = some (cloneA rows nl, []) := by
  refine evK_of Tryz.func24 rfl (of_decide_eq_true (by kernel_rfl)) (by kernel_rfl) (by kernel_rfl) rfl ?_
  unfold Tryz.f24
  dsimp only
  refine aw_seq (aw_region (ow_all 10 (by kernel_rfl) ?_))
  dsimp only [Then]
  cases nl with
  | true =>
    obtain rfl := hnl rfl
    refine aw_seq (aw_seq (aw_region (ow_all 10 (by kernel_rfl) ?_)))
    dsimp only [Then]
    refine (aw_cond (t := true) (by kernel_rfl) (fun _ => ?_) (fun h => by cases h))
    refine aw_seq (aw_region (ow_all 10 (by kernel_rfl) ?_))
    dsimp only [Then]
    refine aw_ret ?_
    dsimp only [Then]
    exact ⟨.inr rfl, [nilS], by kernel_rfl, by kernel_rfl, by kernel_rfl, by kernel_rfl⟩
  | false =>
    cases rows with
    | nil =>
      refine aw_seq (aw_seq (aw_region (ow_all 10 (by kernel_rfl) ?_)))
      dsimp only [Then]
      refine (aw_cond (t := false) (by kernel_rfl) (fun h => by cases h) (fun _ => ?_))
      refine aw_skip ?_
      dsimp only [Then]
      refine aw_seq (aw_region (ow_all 10 (by kernel_rfl) ?_))
      dsimp only [Then]
      refine aw_ret ?_
      exact ⟨.inr rfl, [.slice [] false .full], by kernel_rfl, by kernel_rfl, by kernel_rfl, by kernel_rfl⟩
    | cons r rs =>
      refine aw_seq (aw_seq (aw_region (ow_all 10 (by kernel_rfl) ?_)))
      dsimp only [Then]
      refine (aw_cond (t := false) (by kernel_rfl) (fun h => by cases h) (fun _ => ?_))
      refine aw_skip ?_
      dsimp only [Then]
      refine aw_seq (aw_region ?_)
      refine ow_run (l := [_, _]) 10 (by kernel_rfl) ?_
      refine ow_appendG (ty := 27) (S := .slice [] false .full) (X := .slice (r :: rs) false own) (by kernel_rfl) (by kernel_rfl) (by kernel_rfl) (by kernel_rfl) (append_full (rows := []) (ys := r :: rs) (e := 9) (sz := 1) (by_ := 16) (z := [ST []]) (by kernel_rfl) (by kernel_rfl) (by kernel_rfl) (by kernel_rfl) (by simp) hall (by decide) (by simpa using hlen) (by simp at hlen ⊢; omega) (by decide) (by kernel_rfl) rfl (by simp)) (by kernel_rfl) ?_
      refine ow_all 10 (by kernel_rfl) ?_
      dsimp only [Then]
      refine aw_ret ?_
      exact ⟨.inr rfl, [.slice (r :: rs) false (.id 320)], by kernel_rfl, by kernel_rfl, by kernel_rfl, by kernel_rfl⟩
set_option maxRecDepth 100000 in
theorem clone25 (rows : List (List AV)) (nl : Bool) (own : Own) (hall : ∀ r ∈ rows, r.length = 2) (hlen : rows.length * 24 ≤ 35184372088832) (hnl : nl = true → rows = []) : evK cfgL 25 [.slice rows nl own] [] = some (cloneA rows nl, []) := by
  refine evK_of Tryz.func25 rfl (of_decide_eq_true (by kernel_rfl)) (by kernel_rfl) (by kernel_rfl) rfl ?_
  unfold Tryz.f25
  dsimp only
  refine aw_seq (aw_region (ow_all 10 (by kernel_rfl) ?_))
  dsimp only [Then]
  cases nl with
  | true =>
    obtain rfl := hnl rfl
    refine aw_seq (aw_seq (aw_region (ow_all 10 (by kernel_rfl) ?_)))
    dsimp only [Then]
    refine (aw_cond (t := true) (by kernel_rfl) (fun _ => ?_) (fun h => by cases h))
    refine aw_seq (aw_region (ow_all 10 (by kernel_rfl) ?_))
    dsimp only [Then]
    refine aw_ret ?_
    dsimp only [Then]
    exact ⟨.inr rfl, [nilS], by kernel_rfl, by kernel_rfl, by kernel_rfl, by kernel_rfl⟩
  | false =>
    cases rows with
    | nil =>
      refine aw_seq (aw_seq (aw_region (ow_all 10 (by kernel_rfl) ?_)))
      dsimp only [Then]
      refine (aw_cond (t := false) (by kernel_rfl) (fun h => by cases h) (fun _ => ?_))
      refine aw_skip ?_
      dsimp only [Then]
      refine aw_seq (aw_region (ow_all 10 (by kernel_rfl) ?_))
      dsimp only [Then]
      refine aw_ret ?_
      exact ⟨.inr rfl, [.slice [] false .full], by kernel_rfl, by kernel_rfl, by kernel_rfl, by kernel_rfl⟩
    | cons r rs =>
      refine aw_seq (aw_seq (aw_region (ow_all 10 (by kernel_rfl) ?_)))
      dsimp only [Then]
      refine (aw_cond (t := false) (by kernel_rfl) (fun h => by cases h) (fun _ => ?_))
      refine aw_skip ?_
      dsimp only [Then]
      refine aw_seq (aw_region ?_)
      refine ow_run (l := [_, _]) 10 (by kernel_rfl) ?_
      refine ow_appendG (ty := 28) (S := .slice [] false .full) (X := .slice (r :: rs) false own) (by kernel_rfl) (by kernel_rfl) (by kernel_rfl) (by kernel_rfl) (append_full (rows := []) (ys := r :: rs) (e := 44) (sz := 2) (by_ := 24) (z := [I64 0, ST []]) (by kernel_rfl) (by kernel_rfl) (by kernel_rfl) (by kernel_rfl) (by simp) hall (by decide) (by simpa using hlen) (by simp at hlen ⊢; omega) (by decide) (by kernel_rfl) rfl (by simp)) (by kernel_rfl) ?_
      refine ow_all 10 (by kernel_rfl) ?_
      dsimp only [Then]
      refine aw_ret ?_
      exact ⟨.inr rfl, [.slice (r :: rs) false (.id 320)], by kernel_rfl, by kernel_rfl, by kernel_rfl, by kernel_rfl⟩
set_option maxRecDepth 100000 in
theorem clone82 (rows : List (List AV)) (nl : Bool) (own : Own) (hall : ∀ r ∈ rows, r.length = 5) (hlen : rows.length * 56 ≤ 35184372088832) (hnl : nl = true → rows = []) : evK cfgL 82 [.slice rows nl own] [] = some (cloneA rows nl, []) := by
  refine evK_of Tryz.func82 rfl (of_decide_eq_true (by kernel_rfl)) (by kernel_rfl) (by kernel_rfl) rfl ?_
  unfold Tryz.f82
  dsimp only
  refine aw_seq (aw_region (ow_all 10 (by kernel_rfl) ?_))
  dsimp only [Then]
  cases nl with
  | true =>
    obtain rfl := hnl rfl
    refine aw_seq (aw_seq (aw_region (ow_all 10 (by kernel_rfl) ?_)))
    dsimp only [Then]
    refine (aw_cond (t := true) (by kernel_rfl) (fun _ => ?_) (fun h => by cases h))
    refine aw_seq (aw_region (ow_all 10 (by kernel_rfl) ?_))
    dsimp only [Then]
    refine aw_ret ?_
    dsimp only [Then]
    exact ⟨.inr rfl, [nilS], by kernel_rfl, by kernel_rfl, by kernel_rfl, by kernel_rfl⟩
  | false =>
    cases rows with
    | nil =>
      refine aw_seq (aw_seq (aw_region (ow_all 10 (by kernel_rfl) ?_)))
      dsimp only [Then]
      refine (aw_cond (t := false) (by kernel_rfl) (fun h => by cases h) (fun _ => ?_))
      refine aw_skip ?_
      dsimp only [Then]
      refine aw_seq (aw_region (ow_all 10 (by kernel_rfl) ?_))
      dsimp only [Then]
      refine aw_ret ?_
      exact ⟨.inr rfl, [.slice [] false .full], by kernel_rfl, by kernel_rfl, by kernel_rfl, by kernel_rfl⟩
    | cons r rs =>
      refine aw_seq (aw_seq (aw_region (ow_all 10 (by kernel_rfl) ?_)))
      dsimp only [Then]
      refine (aw_cond (t := false) (by kernel_rfl) (fun h => by cases h) (fun _ => ?_))
      refine aw_skip ?_
      dsimp only [Then]
      refine aw_seq (aw_region ?_)
      refine ow_run (l := [_, _]) 10 (by kernel_rfl) ?_
      refine ow_appendG (ty := 23) (S := .slice [] false .full) (X := .slice (r :: rs) false own) (by kernel_rfl) (by kernel_rfl) (by kernel_rfl) (by kernel_rfl) (append_full (rows := []) (ys := r :: rs) (e := 42) (sz := 5) (by_ := 56) (z := [ST [], BO false, ST [], I64 0, I64 0]) (by kernel_rfl) (by kernel_rfl) (by kernel_rfl) (by kernel_rfl) (by simp) hall (by decide) (by simpa using hlen) (by simp at hlen ⊢; omega) (by decide) (by kernel_rfl) rfl (by simp)) (by kernel_rfl) ?_
      refine ow_all 10 (by kernel_rfl) ?_
      dsimp only [Then]
      refine aw_ret ?_
      exact ⟨.inr rfl, [.slice (r :: rs) false (.id 320)], by kernel_rfl, by kernel_rfl, by kernel_rfl, by kernel_rfl⟩
end Go.Proofs.V.L17
namespace Go.Proofs.W.Q17
open Go Go.Proofs Go.Proofs.V Go.Proofs.V.L17 Go.Proofs.W Go.Proofs.W.Q9
set_option linter.unusedVariables false
set_option linter.unusedSimpArgs false
set_option maxRecDepth 100000
theorem nilT {cfg : Cfg} : ∀ e ∈ ([] : List Ent), FSound cfg e := fun e h => by cases h
theorem consT {cfg : Cfg} {e : Ent} {l : List Ent} (h : FSound cfg e) (k : ∀ e ∈ l, FSound cfg e) : ∀ e' ∈ e :: l, FSound cfg e' := fun e' he => by
  rcases List.mem_cons.1 he with rfl | he
  · exact h
  · exact k e' he
theorem args2 {c1 c2 : CT} {x : Tc c1 × Tc c2} {xs : List AV} (h : ArgR [.c c1, .c c2] x xs) : ∃ a1 a2, xs = [a1, a2] ∧ WR Ono g0 (cellW c1 x.1) a1 ∧ WR Ono g0 (cellW c2 x.2) a2 := by
  obtain ⟨ws, hf, hw⟩ := h
  cases hf
  rcases xs with _ | ⟨a1, _ | ⟨a2, _ | ⟨_, _⟩⟩⟩ <;> first | exact hw.elim | exact hw.2.elim | exact hw.2.2.elim | skip
  exact ⟨a1, a2, rfl, hw.1, hw.2.1⟩
theorem s_bytealg_IndexByteString : FSound cfgL ⟨⟨126, [.c .str, .c (.int .u8)], [.c (.int .i64)]⟩, bytealg_IndexByteString⟩ := by
  rintro ⟨s, c⟩ y hxy xs ha
  have hxy : bytealg_IndexByteString (s, c) = some y := hxy
  obtain ⟨a1, a2, rfl, h1, h2⟩ := args2 (c1 := .str) (c2 := .int .u8) ha
  cases h1
  cases h2
  unfold bytealg_IndexByteString at hxy
  split at hxy
  · cases hxy
    exact ⟨I64 _, rfl, [.int .i64 false _], [I64 _], rfl, rfl, ⟨.int _ _ _, fun e => by cases e⟩, trivial⟩
  · cases hxy
theorem rows_of : ∀ ws : List (List UInt8), All2 (rowR (.one .str)) ws (ws.map E.rowS)
  | [] => trivial
  | w :: ws => ⟨⟨_, rfl, rfl⟩, rows_of ws⟩
theorem s_strings_Split : FSound cfgL ⟨⟨113, [.c .str, .c .str], [.c (.sl (.one .str))]⟩, strings_Split⟩ := by
  rintro ⟨s, c⟩ y hxy xs ha
  have hxy : strings_Split (s, c) = some y := hxy
  obtain ⟨a1, a2, rfl, h1, h2⟩ := args2 (c1 := .str) (c2 := .str) ha
  cases h1
  cases h2
  unfold strings_Split at hxy
  split at hxy
  · rename_i hc
    obtain ⟨hc, hl⟩ := hc
    have hc : c = [47] := hc
    subst hc
    cases hxy
    obtain ⟨ws, rfl, h⟩ := split69 s hl
    exact ⟨_, h, [.sl (.one .str) (E.spl s) .no], [.slice ((E.spl s).map E.rowS) false .no], rfl, rfl, ⟨.sl _ _ _ _ _ _ ⟨rows_of _, fun e => by cases e⟩ rfl (fun _ e => by cases e), fun e => by cases e⟩, trivial⟩
  · cases hxy
end Go.Proofs.W.Q17
