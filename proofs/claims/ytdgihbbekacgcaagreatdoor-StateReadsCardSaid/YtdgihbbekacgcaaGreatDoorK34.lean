/- The seat of StateTells, StateReads (17): what lies outside of the evaluator; strings.Split. -/
import Derived.Test.YtdgihbbekacgcaaGreatDoorK33
import Derived.Test.YtdgihbbekacgcaaGreatDoorK19
import Derived.Test.YtdgihbbekacgcaaGreatDoorK17
import Derived.KernelRfl
import Derived.Test.YtdgihbbekacgcaaGreatDoorK30
namespace Go.Proofs.V.L17
open Go Go.Proofs Go.Proofs.V.E
set_option linter.unusedVariables false
set_option linter.unusedSimpArgs false
set_option maxRecDepth 100000
set_option maxHeartbeats 1000000
noncomputable def extL (f : Nat) : Option (List AV → Option AV) := if f = 86 then some strExt else if f = 124 then some extCount else if f = 126 then some extIndex else none
def heapL (f t : Nat) : Bool := f == 116 && t == 27
noncomputable def cfgL : Cfg := { P := Tryz.prog, ext := extL, eff := fun _ => false, bad := [], heap := heapL, frz := fun f => f == 116 }
theorem mixed : cfgL.P.follows .mixedOrders = true := by kernel_rfl
theorem ext_ok0 : ∀ g s xs r, extL g = some s → s xs = some r → CSound Tryz.prog g xs [] r [] := by
  intro g s xs r hg hs
  unfold extL at hg
  split at hg
  · rename_i h; subst h
    cases hg
    exact str_csound hs
  split at hg
  · rename_i h; subst h
    cases hg
    exact extCount_sound (P := Tryz.prog) Tryz.func124 (by kernel_rfl) (by kernel_rfl) (by kernel_rfl) (by kernel_rfl) hs
  · split at hg
    · rename_i h; subst h
      cases hg
      exact extIndex_sound (P := Tryz.prog) Tryz.func126 (by kernel_rfl) (by kernel_rfl) (by kernel_rfl) (by kernel_rfl) hs
    · cases hg
theorem ext_ok : ∀ g s xs r, cfgL.ext g = some s → s xs = some r → CSound cfgL.P g xs [] r [] := ext_ok0
theorem index81 (s : BS) : ∃ m : Int, callQ cfgL (evK cfgL) 120 [ST s, ST [47]] = some (I64 m) ∧ m = Lib.indexByte s 47 := by
  have key : ∃ m : Int, callQ cfgL (evK cfgL) 125 [ST s, ST [47]] = some (I64 m) ∧ m = Lib.indexByte s 47 := by
    suffices h : ∃ r H', evK cfgL 125 [ST s, ST [47]] [] = some (r, H') ∧ (∃ m : Int, r = I64 m ∧ m = Lib.indexByte s 47) ∧ H' = [] by
      obtain ⟨r, H', h, ⟨b, rfl, hb⟩, rfl⟩ := h
      exact ⟨b, callQ_of (by kernel_rfl) h, hb⟩
    refine evK_ofE (P := fun r H' => (∃ m : Int, r = I64 m ∧ m = Lib.indexByte s 47) ∧ H' = []) Tryz.func125 rfl (of_decide_eq_true (by kernel_rfl)) (by kernel_rfl) (by kernel_rfl) rfl ?_
    unfold Tryz.f125
    dsimp only
    refine aw_sk 10 (by kernel_rfl) ?_
    refine aw_sk 10 (by kernel_rfl) ?_
    refine aw_seq (aw_block (aw_sk 10 (by kernel_rfl) ?_))
    refine aw_cond (t := ((⟨⟨[47]⟩⟩ : ByteArray).toList == (⟨⟨s⟩⟩ : ByteArray).toList)) (by kernel_rfl) (fun h => ?_) (fun _ => ?_)
    · have hs : s = [47] := by
        have := neS (a := [47]) (b := s)
        rw [h] at this
        exact (by simpa using this.symm : [47] = s).symm
      refine aw_sk 10 (by kernel_rfl) ?_
      refine aw_ret ?_
      exact ⟨.inr rfl, [I64 0], by kernel_rfl, by kernel_rfl, ⟨0, by kernel_rfl, by rw [hs]; decide⟩, by kernel_rfl⟩
    · refine aw_sk 10 (by kernel_rfl) ?_
      refine aw_cond (t := true) (by kernel_rfl) (fun _ => ?_) (fun h => by cases h)
      refine aw_sk 40 (by kernel_rfl) ?_
      refine aw_ret ?_
      exact ⟨.inr rfl, [I64 (Lib.indexByte s 47)], by kernel_rfl, by kernel_rfl, ⟨Lib.indexByte s 47, by kernel_rfl, rfl⟩, by kernel_rfl⟩
  obtain ⟨m, h, hm⟩ := key
  refine ⟨m, callQ_of (by kernel_rfl) ?_, hm⟩
  refine evK_of Tryz.func120 rfl (of_decide_eq_true (by kernel_rfl)) (by kernel_rfl) (by kernel_rfl) rfl ?_
  unfold Tryz.f120
  dsimp only
  refine aw_sk 10 (by kernel_rfl) ?_
  refine aw_sr (ow_k 2 10 (by kernel_rfl) ?_)
  refine ow_callG (k := 125) (first := []) (captured := []) (xs := [ST s, ST [47]]) (r := I64 m) (by kernel_rfl) (by kernel_rfl) (by kernel_rfl) (by kernel_rfl) (by kernel_rfl) (by kernel_rfl) h (by kernel_rfl) (by kernel_rfl) ?_
  refine ow_all 10 (by kernel_rfl) ?_
  refine aw_ret ?_
  exact ⟨.inr rfl, [I64 m], by kernel_rfl, by kernel_rfl, by kernel_rfl, by kernel_rfl⟩
set_option maxHeartbeats 2000000 in
theorem split72 (s : BS) (hs : s.length ≤ 1000000) : ∃ ws : List BS, ws = spl s ∧ evK cfgL 116 [ST s, ST [47], I64 0, I64 (-1)] [] = some (.slice (ws.map rowS) false .no, []) := by
  have hcl : Lib.countByte s 47 ≤ s.length := List.count_le_length
  suffices h : ∃ r, evK cfgL 116 [ST s, ST [47], I64 0, I64 (-1)] [] = some (r, []) ∧ (∃ ws : List BS, ws = spl s ∧ r = .slice (ws.map rowS) false .no) by
    obtain ⟨r, h, ws, h1, rfl⟩ := h
    exact ⟨ws, h1, h⟩
  refine evK_ofZE (P := fun r => ∃ ws : List BS, ws = spl s ∧ r = .slice (ws.map rowS) false .no) Tryz.func116 rfl (of_decide_eq_true (by kernel_rfl)) (by kernel_rfl) (by kernel_rfl) rfl ?_
  unfold Tryz.f116
  dsimp only
  refine aw_sk 10 (by kernel_rfl) ?_
  refine aw_assoc (aw_sk 10 (by kernel_rfl) ?_)
  refine aw_sc false (by kernel_rfl) (fun h => by cases h) (fun _ => ?_)
  refine aw_sskip (aw_assoc (aw_sk 10 (by kernel_rfl) ?_))
  refine aw_sc false (by kernel_rfl) (fun h => by cases h) (fun _ => ?_)
  refine aw_sskip (aw_assoc (aw_sk 10 (by kernel_rfl) ?_))
  refine aw_sc true (by kernel_rfl) (fun _ => ?_) (fun h => by cases h)
  refine aw_sk 60 (by kernel_rfl) ?_
  refine aw_sk 10 (by kernel_rfl) ?_
  have hw1 : IntKind.i64.wrap ((Lib.countByte s 47 : Nat) + 1 : Int) = ((Lib.countByte s 47 + 1 : Nat) : Int) := succ64 (by omega)
  have hw2 : IntKind.i64.wrap ((s.length : Nat) + 1 : Int) = ((s.length + 1 : Nat) : Int) := succ64 (by omega)
  refine aw_absE 66 [] [] (cfgL.heap 116) [(0, ST s), (1, ST [47]), (2, I64 0), (3, I64 (Lib.countByte s 47 + 1 : Nat))]
    [(0, ST s), (1, ST [47]), (2, I64 0), (3, I64 (if IntKind.i64.wrap ((s.length : Nat) + 1 : Int) < IntKind.i64.wrap ((Lib.countByte s 47 : Nat) + 1 : Int) then IntKind.i64.wrap ((s.length : Nat) + 1 : Int) else IntKind.i64.wrap ((Lib.countByte s 47 : Nat) + 1 : Int)))]
    (by rw [hw1, hw2, if_neg (by omega)]) rfl (by kernel_rfl) (fun t1 c1 al1 => ?_)
  generalize hN : Lib.countByte s 47 + 1 = N
  have hN0 : N ≠ 0 := by omega
  have hN1 : N ≤ 1000001 := by omega
  refine aw_sr (ow_k 1 10 (by kernel_rfl) ?_)
  refine ow_mk (n := N) (e := 9) (z := [ST []]) (sz := 1) (by_ := 16) hN0 (by omega) (by omega) (by kernel_rfl) (by kernel_rfl) (by kernel_rfl) (by kernel_rfl) (by kernel_rfl) (by kernel_rfl) (by kernel_rfl) (by kernel_rfl) (by kernel_rfl) (by kernel_rfl) (by kernel_rfl) ?_
  refine ow_all 10 (by kernel_rfl) ?_
  refine aw_sk 10 (by kernel_rfl) ?_
  refine aw_sk 10 (by kernel_rfl) ?_
  have hw3 : IntKind.i64.wrap ((N : Nat) - 1 : Int) = ((N - 1 : Nat) : Int) := by rw [wrapI (by omega) (by omega)]; omega
  refine aw_absE 66 [cells82 N []] [[] ++ (List.replicate N [ST []]).flatten] (cfgL.heap 116) [(0, ST s), (1, ST [47]), (2, I64 0), (3, I64 (N - 1 : Nat)), (9, .hs 0 0 N N 1), (10, I64 0)]
    [(0, ST s), (1, ST [47]), (2, I64 0), (3, I64 (IntKind.i64.wrap ((N : Nat) - 1 : Int))), (9, .hs 0 0 N N 1), (10, I64 0)] (by rw [hw3]) (by simp [cells82]) (by kernel_rfl) (fun t2 c2 al2 => ?_)
  refine aw_sforJ (N - 1) (fun i F => ∃ ws s', Is 66 [cells82 N ws] (cfgL.heap 116) [(0, ST s'), (1, ST [47]), (2, I64 0), (3, I64 (N - 1 : Nat)), (9, .hs 0 0 N N 1), (10, I64 (i : Nat))] F ∧ ws.length = i ∧ ws ++ spl s' = spl s ∧ s'.count 47 + i = N - 1 ∧ s'.length ≤ s.length)
    (fun F => ∃ ws s', Is 66 [cells82 N ws] (cfgL.heap 116) [(0, ST s'), (9, .hs 0 0 N N 1), (10, I64 (ws.length : Nat))] F ∧ ws.length < N ∧ ws ++ [s'] = spl s) ?_ ?_ ?_ ?_
  · exact ⟨[], s, is_of (by kernel_rfl), rfl, by simp, by rw [← hN]; rfl, Nat.le_refl _⟩
  · rintro i F hi ⟨ws, s', ⟨t, c, al, rfl⟩, hwl, hspl, hcnt, hslen⟩
    refine aw_assoc (aw_sk 10 (by kernel_rfl) ?_)
    refine aw_sc (decide ((i : Int) < ((N - 1 : Nat) : Int))) (by kernel_rfl) (fun _ => ?_) (fun h => absurd (of_decide_eq_false h) (by omega))
    obtain ⟨m, hm, hmr⟩ := index81 s'
    obtain ⟨hi1, hi2⟩ := spl_idx s'
    rw [← hmr] at hi1 hi2
    have hlt := indexByte_lt s' 47
    rw [← hmr] at hlt
    refine aw_sskip (aw_block (aw_sr (ow_k 2 10 (by kernel_rfl) ?_)))
    refine ow_callG (k := 120) (first := []) (captured := []) (xs := [ST s', ST [47]]) (r := I64 m) (by kernel_rfl) (by kernel_rfl) (by kernel_rfl) (by kernel_rfl) (by kernel_rfl) (by kernel_rfl) hm (by kernel_rfl) (by kernel_rfl) ?_
    refine ow_all 10 (by kernel_rfl) ?_
    refine aw_assoc (aw_sk 10 (by kernel_rfl) ?_)
    refine aw_sc (decide (m < 0)) (by kernel_rfl) (fun h => ?_) (fun h => ?_)
    · refine aw_sexit ?_
      refine ⟨rfl, ws, s', is_at (l' := [(0, ST s'), (9, .hs 0 0 N N 1), (10, I64 (i : Nat))]) (by rw [hwl]) (by kernel_rfl), by omega, ?_⟩
      rw [← (hi1 (of_decide_eq_true h)).1]
      exact hspl
    have hm0 : 0 ≤ m := by have := of_decide_eq_false h; omega
    have hm1 : m < s'.length := by rcases hlt with h | h <;> omega
    obtain ⟨hd1, hd2⟩ := hi2 hm0
    have hsl : s'.length ≤ 1000000 := by omega
    have hwm : IntKind.i64.wrap (m + 0) = m := by rw [wrapI (by omega) (by omega)]; omega
    have hwm1 : IntKind.i64.wrap (m + 1) = m + 1 := wrapI (by omega) (by omega)
    refine aw_sskip (aw_sr (ow_k 6 10 (by kernel_rfl) ?_))
    refine ow_stre (bs := s') (l := 0) (u := IntKind.i64.wrap (m + 0)) (s'.take m.toNat) (by rw [hwm]; simp) (by omega) (by omega) (by omega) (by kernel_rfl) (by kernel_rfl) (by kernel_rfl) (by kernel_rfl) (by kernel_rfl) (by kernel_rfl) ?_
    refine ow_hat (l := 0) (off := 0) (len := N) (cap := N) (sz := 1) (n := (i : Int)) (e := 9) (by omega) (by omega) (by kernel_rfl) (by kernel_rfl) (by kernel_rfl) (by kernel_rfl) (by kernel_rfl) (by kernel_rfl) ?_
    refine ow_hst (l := 0) (off := 0 + (i : Int).toNat * 1) (row := cells82 N ws) (v := ST (s'.take m.toNat)) (by rw [cells_len N ws (by omega)]; simp [AV.cells]; omega) (by kernel_rfl) (by kernel_rfl) (by kernel_rfl) (by kernel_rfl) (by kernel_rfl) (by kernel_rfl) ?_
    refine ow_nil ?_
    refine aw_absE 66 [cells82 N (ws ++ [s'.take m.toNat])] [splice (cells82 N ws) (0 + (i : Int).toNat * 1) [ST (s'.take m.toNat)]] (cfgL.heap 116) [(0, ST s'), (1, ST [47]), (2, I64 0), (3, I64 (N - 1 : Nat)), (9, .hs 0 0 N N 1), (10, I64 (i : Nat)), (11, I64 m)] _ rfl (by
      rw [← cells_set N ws _ (by omega), hwl]; simp) (by kernel_rfl) (fun t3 c3 al3 => ?_)
    refine aw_sr (ow_k 5 10 (by kernel_rfl) ?_)
    refine ow_stre (bs := s') (l := IntKind.i64.wrap (m + 1)) (u := (s'.length : Int)) (s'.drop (m.toNat + 1)) (by rw [hwm1, show (m + 1).toNat = m.toNat + 1 by omega]; exact List.take_of_length_le (by rw [List.length_drop]; omega)) (by omega) (by omega) (by omega) (by kernel_rfl) (by kernel_rfl) (by kernel_rfl) (by kernel_rfl) (by kernel_rfl) (by kernel_rfl) ?_
    refine ow_all 10 (by kernel_rfl) ?_
    refine aw_rk 10 (by kernel_rfl) ?_
    refine ⟨ws ++ [s'.take m.toNat], s'.drop (m.toNat + 1), is_at (l' := [(0, ST (s'.drop (m.toNat + 1))), (1, ST [47]), (2, I64 0), (3, I64 (N - 1 : Nat)), (9, .hs 0 0 N N 1), (10, I64 (IntKind.i64.wrap ((i : Int) + 1)))]) (by rw [succ64 (by omega)]) (by kernel_rfl), by simp [hwl], ?_, ?_, ?_⟩
    · rw [List.append_assoc, List.singleton_append, ← hd1]; exact hspl
    · omega
    · rw [List.length_drop]; omega
  · rintro F ⟨ws, s', ⟨t, c, al, rfl⟩, hwl, hspl, hcnt, hslen⟩
    have hz : spl s' = [s'] := by
      obtain ⟨hi1, hi2⟩ := spl_idx s'
      by_cases hm : Lib.indexByte s' 47 < 0
      · exact (hi1 hm).1
      · have := (hi2 (by omega)).2
        omega
    rw [hz] at hspl
    refine aw_assoc (aw_sk 10 (by kernel_rfl) ?_)
    refine aw_sc (decide (((N - 1 : Nat) : Int) < ((N - 1 : Nat) : Int))) (by kernel_rfl) (fun h => absurd (of_decide_eq_true h) (by omega)) (fun _ => ?_)
    refine aw_sexit ?_
    exact ⟨rfl, ws, s', is_at (l' := [(0, ST s'), (9, .hs 0 0 N N 1), (10, I64 (N - 1 : Nat))]) (by rw [hwl]) (by kernel_rfl), by omega, hspl⟩
  · rintro F ⟨ws, s', ⟨t, c, al, rfl⟩, hwl, hsum⟩
    have hw5 : IntKind.i64.wrap ((ws.length : Nat) + 1 : Int) = ((ws.length + 1 : Nat) : Int) := succ64 (by omega)
    refine aw_sr (ow_k 3 10 (by kernel_rfl) ?_)
    refine ow_hat (l := 0) (off := 0) (len := N) (cap := N) (sz := 1) (n := (ws.length : Int)) (e := 9) (by omega) (by omega) (by kernel_rfl) (by kernel_rfl) (by kernel_rfl) (by kernel_rfl) (by kernel_rfl) (by kernel_rfl) ?_
    refine ow_hst (l := 0) (off := 0 + (ws.length : Int).toNat * 1) (row := cells82 N ws) (v := ST s') (by rw [cells_len N ws (by omega)]; simp [AV.cells]; omega) (by kernel_rfl) (by kernel_rfl) (by kernel_rfl) (by kernel_rfl) (by kernel_rfl) (by kernel_rfl) ?_
    refine ow_nil ?_
    refine aw_absE 66 [cells82 N (ws ++ [s'])] [splice (cells82 N ws) (0 + (ws.length : Int).toNat * 1) [ST s']] (cfgL.heap 116) [(9, .hs 0 0 N N 1), (10, I64 (ws.length : Nat))] _ rfl (by
      rw [← cells_set N ws _ (by omega)]; simp) (by kernel_rfl) (fun t3 c3 al3 => ?_)
    refine aw_sr (ow_k 3 10 (by kernel_rfl) ?_)
    refine ow_hsl (loc := 0) (off := 0) (len := N) (cap := N) (sz := 1) (l := 0) (u := IntKind.i64.wrap ((ws.length : Nat) + 1 : Int)) (e := 9) (by omega) (by omega) (by omega) (by omega) (by omega) (by kernel_rfl) (by kernel_rfl) (by kernel_rfl) (by kernel_rfl) (by kernel_rfl) (by kernel_rfl) (by kernel_rfl) ?_
    refine ow_all 10 (by kernel_rfl) ?_
    refine aw_ret ?_
    refine ⟨.inr rfl, [.hs 0 (0 + (0 : Int).toNat * 1) ((IntKind.i64.wrap ((ws.length : Nat) + 1 : Int)).toNat - (0 : Int).toNat) (N - (0 : Int).toNat) 1], [.slice ((ws ++ [s']).map rowS) false .no], by kernel_rfl, ?_, ?_, ?_⟩
    · refine Eq.trans (congrArg (fun H => freezeA H _) (show _ = [cells82 N (ws ++ [s'])] by kernel_rfl)) ?_
      have hlen : (cells82 N (ws ++ [s'])).length = N := cells_len N _ (by simp; omega)
      rw [hw5]
      simp only [freezeA, freeze1A, Int.toNat_zero, Nat.zero_mul, Nat.add_zero, Nat.sub_zero, Int.toNat_natCast, List.getElem?_cons_zero, Option.bind_some]
      rw [if_neg (by omega)]
      simp only [rowsOf, hlen, Nat.zero_add, Nat.mul_one]
      rw [if_pos (by omega)]
      simp only [Option.map_some, Option.bind_some]
      congr 2
      apply congrArg (fun x => AV.slice x false Own.no)
      apply List.ext_getElem
      · simp
      · intro k h1 h2
        simp at h1
        have hk : k < (cells82 N (ws ++ [s'])).length := by omega
        have hg : (cells82 N (ws ++ [s']))[k] = ST ((ws ++ [s'])[k]'(by simp; omega)) := by
          simp only [cells82]
          rw [List.getElem_append_left (by simp; omega), List.getElem_map]
        simp only [List.getElem_map, List.getElem_range, rowS]
        rw [List.drop_eq_getElem_cons hk]
        simp [hg]
    · simp [AV.free, nohp, rowS]
    · refine ⟨ws ++ [s'], hsum, ?_⟩
      rfl
theorem split69 (s : BS) (hs : s.length ≤ 1000000) : ∃ ws : List BS, ws = spl s ∧ callQ cfgL (evK cfgL) 113 [ST s, ST [47]] = some (.slice (ws.map rowS) false .no) := by
  obtain ⟨ws, h1, h3⟩ := split72 s hs
  refine ⟨ws, h1, callQ_of (by kernel_rfl) ?_⟩
  replace h3 := callQ_of (show cfgL.ext 116 = none by kernel_rfl) h3
  refine evK_of Tryz.func113 rfl (of_decide_eq_true (by kernel_rfl)) (by kernel_rfl) (by kernel_rfl) rfl ?_
  unfold Tryz.f113
  dsimp only
  refine aw_sk 10 (by kernel_rfl) ?_
  refine aw_sr (ow_k 2 10 (by kernel_rfl) ?_)
  refine ow_callG (k := 116) (first := []) (captured := []) (xs := [ST s, ST [47], I64 0, I64 (-1)]) (r := .slice (ws.map rowS) false .no) (by kernel_rfl) (by kernel_rfl) (by kernel_rfl) (by kernel_rfl) (by kernel_rfl) (by kernel_rfl) h3 (by kernel_rfl) (by kernel_rfl) ?_
  refine ow_all 10 (by kernel_rfl) ?_
  refine aw_ret ?_
  exact ⟨.inr rfl, [.slice (ws.map rowS) false .no], by kernel_rfl, by kernel_rfl, by kernel_rfl, by kernel_rfl⟩
end Go.Proofs.V.L17
namespace Go.Proofs.V.L17
open Go Go.Proofs Go.Proofs.V Go.Proofs.V.E
set_option linter.unusedVariables false
set_option linter.unusedSimpArgs false
def effS (f : Nat) : Bool := [5,7,22,9,13,15,16,18,33,43,45,57,62,63,64,65,66,67,68,69,70,71,72,73,74,75,90,101,102,103,104,108].contains f
def heapS (f t : Nat) : Bool := (f == 18 && t == 26) || (f == 116 && t == 27) || (f == 62 && t == 112) || (f == 68 && t == 25)
noncomputable def cfgSm : Cfg := { P := Tryz.prog, ext := extL, eff := effS, bad := [], heap := heapS, frz := fun f => f == 116 }
set_option maxRecDepth 100000 in
theorem small5 : callQ cfgSm (evN cfgSm 300).2 5 [] = some (BO true) := by kernel_rfl
end Go.Proofs.V.L17
namespace Go.Proofs.V.L17
open Go Go.Proofs Go.Proofs.V.E
set_option linter.unusedVariables false
set_option linter.unusedSimpArgs false
set_option maxRecDepth 100000
abbrev nilS : AV := .slice [] true .full
def cloneA (rows : List (List AV)) (nl : Bool) : AV := if nl then nilS else if rows.isEmpty then .slice [] false .full else .slice rows false .fresh
end Go.Proofs.V.L17
namespace Go.Proofs.W.Q17
open Go Go.Proofs Go.Proofs.V Go.Proofs.V.L17 Go.Proofs.W Go.Proofs.W.Q9
set_option linter.unusedVariables false
set_option linter.unusedSimpArgs false
set_option maxRecDepth 100000
theorem nilT {cfg : Cfg} : ∀ e ∈ ([] : List Ent), FSound cfg e := fun e h => by cases h
theorem consT {cfg : Cfg} {e : Ent} {l : List Ent} (h : FSound cfg e) (k : ∀ e ∈ l, FSound cfg e) : ∀ e' ∈ e :: l, FSound cfg e' := fun e' he => by
  rcases List.mem_cons.1 he with rfl | he
  · exact h
  · exact k e' he
theorem args2 {c1 c2 : CT} {x : Tc c1 × Tc c2} {xs : List AV} (h : ArgR [.c c1, .c c2] x xs) : ∃ a1 a2, xs = [a1, a2] ∧ WR Ono g0 (cellW c1 x.1) a1 ∧ WR Ono g0 (cellW c2 x.2) a2 := by
  obtain ⟨ws, hf, hw⟩ := h
  cases hf
  rcases xs with _ | ⟨a1, _ | ⟨a2, _ | ⟨_, _⟩⟩⟩ <;> first | exact hw.elim | exact hw.2.elim | exact hw.2.2.elim | skip
  exact ⟨a1, a2, rfl, hw.1, hw.2.1⟩
theorem s_bytealg_IndexByteString : FSound cfgL ⟨⟨126, [.c .str, .c (.int .u8)], [.c (.int .i64)]⟩, bytealg_IndexByteString⟩ := by
  rintro ⟨s, c⟩ y hxy xs ha
  have hxy : bytealg_IndexByteString (s, c) = some y := hxy
  obtain ⟨a1, a2, rfl, h1, h2⟩ := args2 (c1 := .str) (c2 := .int .u8) ha
  cases h1
  cases h2
  unfold bytealg_IndexByteString at hxy
  split at hxy
  · cases hxy
    exact ⟨I64 _, rfl, [.int .i64 false _], [I64 _], rfl, rfl, ⟨.int _ _ _, fun e => by cases e⟩, trivial⟩
  · cases hxy
theorem rows_of : ∀ ws : List (List UInt8), All2 (rowR (.one .str)) ws (ws.map E.rowS)
  | [] => trivial
  | w :: ws => ⟨⟨_, rfl, rfl⟩, rows_of ws⟩
theorem s_strings_Split : FSound cfgL ⟨⟨113, [.c .str, .c .str], [.c (.sl (.one .str))]⟩, strings_Split⟩ := by
  rintro ⟨s, c⟩ y hxy xs ha
  have hxy : strings_Split (s, c) = some y := hxy
  obtain ⟨a1, a2, rfl, h1, h2⟩ := args2 (c1 := .str) (c2 := .str) ha
  cases h1
  cases h2
  unfold strings_Split at hxy
  split at hxy
  · rename_i hc
    obtain ⟨hc, hl⟩ := hc
    have hc : c = [47] := hc
    subst hc
    cases hxy
    obtain ⟨ws, rfl, h⟩ := split69 s hl
    exact ⟨_, h, [.sl (.one .str) (E.spl s) .no], [.slice ((E.spl s).map E.rowS) false .no], rfl, rfl, ⟨.sl _ _ _ _ _ _ ⟨rows_of _, fun e => by cases e⟩ rfl (fun _ e => by cases e), fun e => by cases e⟩, trivial⟩
  · cases hxy
end Go.Proofs.W.Q17
namespace Go.Proofs.W.Q17
open Go Go.Proofs Go.Proofs.V Go.Proofs.V.L17 Go.Proofs.W
set_option linter.unusedVariables false
set_option linter.unusedSimpArgs false
set_option maxRecDepth 100000
theorem s_ref03_cut : FSound cfgL ⟨⟨111, [.c .str], [.fr (.one .str)]⟩, Q10.ref03_cut⟩ :=
  w_sound (W := ⟨real, Tryz.prog, fun _ => false, dsOf cfgL, []⟩) (H := ⟨[(4, [.val 3 (.fr (.one .str)), .val 4 (.c (.int .i64)), .val 5 (.c (.int .i64))], [0])], [], 32, []⟩) (a := [.c .str]) (rs := [.fr (.one .str)]) ⟨rfl, rfl, rfl, rfl, nilT⟩ Q10.ref03_cut 80 Tryz.func111 rfl (by kernel_rfl) (by kernel_rfl) (by kernel_rfl) (by kernel_rfl) (by kernel_rfl) (by kernel_rfl) (fun t => by kernel_rfl) (fun x => by kernel_rfl)
theorem s_ref03_Name : FSound cfgL ⟨⟨112, [.c .str], [.c .bool]⟩, Q10.ref03_Name⟩ :=
  w_sound (W := ⟨real, Tryz.prog, fun _ => false, dsOf cfgL, []⟩) (H := ⟨[(4, [.val 3 (.c (.int .i64))], [0])], [], 53, []⟩) (a := [.c .str]) (rs := [.c .bool]) ⟨rfl, rfl, rfl, rfl, nilT⟩ Q10.ref03_Name 80 Tryz.func112 rfl (by kernel_rfl) (by kernel_rfl) (by kernel_rfl) (by kernel_rfl) (by kernel_rfl) (by kernel_rfl) (fun t => by kernel_rfl) (fun x => by kernel_rfl)
theorem s_ref03_Right : FSound cfgL ⟨⟨95, [.c .str], [.c .bool]⟩, Q10.ref03_Right⟩ :=
  w_sound (W := ⟨real, Tryz.prog, fun _ => false, dsOf cfgL, [⟨⟨111, [.c .str], [.fr (.one .str)]⟩, Q10.ref03_cut⟩, ⟨⟨112, [.c .str], [.c .bool]⟩, Q10.ref03_Name⟩]⟩) (H := ⟨[(5, [.val 4 (.c (.int .i64))], [3])], [], 22, []⟩) (a := [.c .str]) (rs := [.c .bool]) ⟨rfl, rfl, rfl, rfl, (consT s_ref03_cut (consT s_ref03_Name nilT))⟩ Q10.ref03_Right 80 Tryz.func95 rfl (by kernel_rfl) (by kernel_rfl) (by kernel_rfl) (by kernel_rfl) (by kernel_rfl) (by kernel_rfl) (fun t => by kernel_rfl) (fun x => by kernel_rfl)
theorem s_ref03_Under : FSound cfgL ⟨⟨96, [.c .str, .c .str], [.c .bool]⟩, Q10.ref03_Under⟩ :=
  w_sound (W := ⟨real, Tryz.prog, fun _ => false, dsOf cfgL, [⟨⟨95, [.c .str], [.c .bool]⟩, Q10.ref03_Right⟩]⟩) (H := ⟨[], [], 33, []⟩) (a := [.c .str, .c .str]) (rs := [.c .bool]) ⟨rfl, rfl, rfl, rfl, (consT s_ref03_Right nilT)⟩ Q10.ref03_Under 80 Tryz.func96 rfl (by kernel_rfl) (by kernel_rfl) (by kernel_rfl) (by kernel_rfl) (by kernel_rfl) (by kernel_rfl) (fun t => by kernel_rfl) (fun x => by kernel_rfl)
theorem s_ref04_Right : FSound cfgL ⟨⟨47, [.c (.sl (.cons .str (.one .str)))], [.c .bool]⟩, Q10.ref04_Right⟩ :=
  w_sound (W := ⟨real, Tryz.prog, fun _ => false, dsOf cfgL, [⟨⟨95, [.c .str], [.c .bool]⟩, Q10.ref03_Right⟩, ⟨⟨96, [.c .str, .c .str], [.c .bool]⟩, Q10.ref03_Under⟩]⟩) (H := ⟨[(4, [.val 3 (.c (.int .i64))], [0]), (10, [.val 5 (.c (.int .i64))], [0, 3])], [], 66, []⟩) (a := [.c (.sl (.cons .str (.one .str)))]) (rs := [.c .bool]) ⟨rfl, rfl, rfl, rfl, (consT s_ref03_Right (consT s_ref03_Under nilT))⟩ Q10.ref04_Right 80 Tryz.func47 rfl (by kernel_rfl) (by kernel_rfl) (by kernel_rfl) (by kernel_rfl) (by kernel_rfl) (by kernel_rfl) (fun t => by kernel_rfl) (fun x => by kernel_rfl)
theorem s_ref02_Right : FSound cfgL ⟨⟨97, [.agg [.c (.int .i64), .c (.int .i64)]], [.c .bool]⟩, Q10.ref02_Right⟩ :=
  w_sound (W := ⟨real, Tryz.prog, fun _ => false, dsOf cfgL, []⟩) (H := ⟨[], [], 21, []⟩) (a := [.agg [.c (.int .i64), .c (.int .i64)]]) (rs := [.c .bool]) ⟨rfl, rfl, rfl, rfl, nilT⟩ Q10.ref02_Right 80 Tryz.func97 rfl (by kernel_rfl) (by kernel_rfl) (by kernel_rfl) (by kernel_rfl) (by kernel_rfl) (by kernel_rfl) (fun t => by kernel_rfl) (fun x => by kernel_rfl)
theorem s_ref09_files : FSound cfgL ⟨⟨98, [.c (.sl (.cons .str (.cons .bool (.cons .str (.cons (.int .i64) (.one (.int .i64)))))))], [.fr (.cons .str (.one .str))]⟩, Q10.ref09_files⟩ :=
  w_sound (W := ⟨real, Tryz.prog, fun _ => false, dsOf cfgL, []⟩) (H := ⟨[(3, [.val 3 (.fr (.cons .str (.one .str))), .val 4 (.c (.int .i64))], [0])], [], 31, []⟩) (a := [.c (.sl (.cons .str (.cons .bool (.cons .str (.cons (.int .i64) (.one (.int .i64)))))))]) (rs := [.fr (.cons .str (.one .str))]) ⟨rfl, rfl, rfl, rfl, nilT⟩ Q10.ref09_files 80 Tryz.func98 rfl (by kernel_rfl) (by kernel_rfl) (by kernel_rfl) (by kernel_rfl) (by kernel_rfl) (by kernel_rfl) (fun t => by kernel_rfl) (fun x => by kernel_rfl)
theorem s_ref09_Right : FSound cfgL ⟨⟨48, [.c (.sl (.cons .str (.cons .bool (.cons .str (.cons (.int .i64) (.one (.int .i64)))))))], [.c .bool]⟩, Q10.ref09_Right⟩ :=
  w_sound (W := ⟨real, Tryz.prog, fun _ => false, dsOf cfgL, [⟨⟨95, [.c .str], [.c .bool]⟩, Q10.ref03_Right⟩, ⟨⟨97, [.agg [.c (.int .i64), .c (.int .i64)]], [.c .bool]⟩, Q10.ref02_Right⟩, ⟨⟨98, [.c (.sl (.cons .str (.cons .bool (.cons .str (.cons (.int .i64) (.one (.int .i64)))))))], [.fr (.cons .str (.one .str))]⟩, Q10.ref09_files⟩, ⟨⟨47, [.c (.sl (.cons .str (.one .str)))], [.c .bool]⟩, Q10.ref04_Right⟩]⟩) (H := ⟨[(4, [.val 3 (.c (.int .i64))], [0])], [], 72, []⟩) (a := [.c (.sl (.cons .str (.cons .bool (.cons .str (.cons (.int .i64) (.one (.int .i64)))))))]) (rs := [.c .bool]) ⟨rfl, rfl, rfl, rfl, (consT s_ref03_Right (consT s_ref02_Right (consT s_ref09_files (consT s_ref04_Right nilT))))⟩ Q10.ref09_Right 80 Tryz.func48 rfl (by kernel_rfl) (by kernel_rfl) (by kernel_rfl) (by kernel_rfl) (by kernel_rfl) (by kernel_rfl) (fun t => by kernel_rfl) (fun x => by kernel_rfl)
theorem s_ref03_Sorted : FSound cfgL ⟨⟨49, [.c (.sl (.one .str))], [.c .bool]⟩, Q17.ref03_Sorted⟩ :=
  w_sound (W := ⟨real, Tryz.prog, fun _ => false, dsOf cfgL, [⟨⟨95, [.c .str], [.c .bool]⟩, Q10.ref03_Right⟩]⟩) (H := ⟨[(2, [.val 3 (.c (.int .i64))], [0])], [], 32, []⟩) (a := [.c (.sl (.one .str))]) (rs := [.c .bool]) ⟨rfl, rfl, rfl, rfl, (consT s_ref03_Right nilT)⟩ Q17.ref03_Sorted 80 Tryz.func49 rfl (by kernel_rfl) (by kernel_rfl) (by kernel_rfl) (by kernel_rfl) (by kernel_rfl) (by kernel_rfl) (fun t => by kernel_rfl) (fun x => by kernel_rfl)
theorem s_ref17_within : FSound cfgL ⟨⟨50, [.c (.int .i64), .c (.int .i64)], [.c .bool]⟩, Q17.ref17_within⟩ :=
  w_sound (W := ⟨real, Tryz.prog, fun _ => false, dsOf cfgL, []⟩) (H := ⟨[], [], 12, []⟩) (a := [.c (.int .i64), .c (.int .i64)]) (rs := [.c .bool]) ⟨rfl, rfl, rfl, rfl, nilT⟩ Q17.ref17_within 80 Tryz.func50 rfl (by kernel_rfl) (by kernel_rfl) (by kernel_rfl) (by kernel_rfl) (by kernel_rfl) (by kernel_rfl) (fun t => by kernel_rfl) (fun x => by kernel_rfl)
theorem s_ref17_Right : FSound cfgL ⟨⟨14, [.agg [.c (.int .i64), .c (.sl (.cons .str (.one .str))), .c (.sl (.cons .str (.cons .bool (.cons .str (.cons (.int .i64) (.one (.int .i64))))))), .c (.int .i64), .c (.int .i64), .c (.int .i64), .c (.int .i64), .c (.sl (.one (.int .i64))), .c (.sl (.cons .str (.cons .bool (.cons .str (.cons (.int .i64) (.one (.int .i64))))))), .c .bool, .c (.int .i64), .c (.int .i64), .c (.int .i64), .c (.int .i64), .c (.sl (.cons .str (.cons .bool (.cons .str (.cons (.int .i64) (.one (.int .i64))))))), .c (.sl (.one .str)), .c (.sl (.cons (.int .i64) (.one .str))), .c .bool]], [.c .bool]⟩, Q17.ref17_Right⟩ :=
  w_sound (W := ⟨real, Tryz.prog, fun _ => false, dsOf cfgL, [⟨⟨47, [.c (.sl (.cons .str (.one .str)))], [.c .bool]⟩, Q10.ref04_Right⟩, ⟨⟨48, [.c (.sl (.cons .str (.cons .bool (.cons .str (.cons (.int .i64) (.one (.int .i64)))))))], [.c .bool]⟩, Q10.ref09_Right⟩, ⟨⟨49, [.c (.sl (.one .str))], [.c .bool]⟩, Q17.ref03_Sorted⟩, ⟨⟨50, [.c (.int .i64), .c (.int .i64)], [.c .bool]⟩, Q17.ref17_within⟩]⟩) (H := ⟨[(10, [.box 1 [.c (.int .i64), .c (.sl (.cons .str (.one .str))), .c (.sl (.cons .str (.cons .bool (.cons .str (.cons (.int .i64) (.one (.int .i64))))))), .c (.int .i64), .c (.int .i64), .c (.int .i64), .c (.int .i64), .c (.sl (.one (.int .i64))), .c (.sl (.cons .str (.cons .bool (.cons .str (.cons (.int .i64) (.one (.int .i64))))))), .c .bool, .c (.int .i64), .c (.int .i64), .c (.int .i64), .c (.int .i64), .c (.sl (.cons .str (.cons .bool (.cons .str (.cons (.int .i64) (.one (.int .i64))))))), .c (.sl (.one .str)), .c (.sl (.cons (.int .i64) (.one .str))), .c .bool], .val 8 (.c (.int .i64)), .val 9 (.c (.int .i64))], []), (20, [.box 1 [.c (.int .i64), .c (.sl (.cons .str (.one .str))), .c (.sl (.cons .str (.cons .bool (.cons .str (.cons (.int .i64) (.one (.int .i64))))))), .c (.int .i64), .c (.int .i64), .c (.int .i64), .c (.int .i64), .c (.sl (.one (.int .i64))), .c (.sl (.cons .str (.cons .bool (.cons .str (.cons (.int .i64) (.one (.int .i64))))))), .c .bool, .c (.int .i64), .c (.int .i64), .c (.int .i64), .c (.int .i64), .c (.sl (.cons .str (.cons .bool (.cons .str (.cons (.int .i64) (.one (.int .i64))))))), .c (.sl (.one .str)), .c (.sl (.cons (.int .i64) (.one .str))), .c .bool], .val 10 (.c (.int .i64))], [])], [], 161, []⟩) (a := [.agg [.c (.int .i64), .c (.sl (.cons .str (.one .str))), .c (.sl (.cons .str (.cons .bool (.cons .str (.cons (.int .i64) (.one (.int .i64))))))), .c (.int .i64), .c (.int .i64), .c (.int .i64), .c (.int .i64), .c (.sl (.one (.int .i64))), .c (.sl (.cons .str (.cons .bool (.cons .str (.cons (.int .i64) (.one (.int .i64))))))), .c .bool, .c (.int .i64), .c (.int .i64), .c (.int .i64), .c (.int .i64), .c (.sl (.cons .str (.cons .bool (.cons .str (.cons (.int .i64) (.one (.int .i64))))))), .c (.sl (.one .str)), .c (.sl (.cons (.int .i64) (.one .str))), .c .bool]]) (rs := [.c .bool]) ⟨rfl, rfl, rfl, rfl, (consT s_ref04_Right (consT s_ref09_Right (consT s_ref03_Sorted (consT s_ref17_within nilT))))⟩ Q17.ref17_Right 80 Tryz.func14 rfl (by kernel_rfl) (by kernel_rfl) (by kernel_rfl) (by kernel_rfl) (by kernel_rfl) (by kernel_rfl) (fun t => by kernel_rfl) (fun x => by kernel_rfl)
theorem s_ref04_Same : FSound cfgL ⟨⟨26, [.c (.sl (.cons .str (.one .str))), .c (.sl (.cons .str (.one .str)))], [.c .bool]⟩, Q10.ref04_Same⟩ :=
  w_sound (W := ⟨real, Tryz.prog, fun _ => false, dsOf cfgL, []⟩) (H := ⟨[(4, [.val 5 (.c (.int .i64))], [0, 1])], [], 26, []⟩) (a := [.c (.sl (.cons .str (.one .str))), .c (.sl (.cons .str (.one .str)))]) (rs := [.c .bool]) ⟨rfl, rfl, rfl, rfl, nilT⟩ Q10.ref04_Same 80 Tryz.func26 rfl (by kernel_rfl) (by kernel_rfl) (by kernel_rfl) (by kernel_rfl) (by kernel_rfl) (by kernel_rfl) (fun t => by kernel_rfl) (fun x => by kernel_rfl)
theorem s_ref09_Same : FSound cfgL ⟨⟨27, [.c (.sl (.cons .str (.cons .bool (.cons .str (.cons (.int .i64) (.one (.int .i64))))))), .c (.sl (.cons .str (.cons .bool (.cons .str (.cons (.int .i64) (.one (.int .i64)))))))], [.c .bool]⟩, Q10.ref09_Same⟩ :=
  w_sound (W := ⟨real, Tryz.prog, fun _ => false, dsOf cfgL, []⟩) (H := ⟨[(4, [.val 5 (.c (.int .i64))], [0, 1])], [], 26, []⟩) (a := [.c (.sl (.cons .str (.cons .bool (.cons .str (.cons (.int .i64) (.one (.int .i64))))))), .c (.sl (.cons .str (.cons .bool (.cons .str (.cons (.int .i64) (.one (.int .i64)))))))]) (rs := [.c .bool]) ⟨rfl, rfl, rfl, rfl, nilT⟩ Q10.ref09_Same 80 Tryz.func27 rfl (by kernel_rfl) (by kernel_rfl) (by kernel_rfl) (by kernel_rfl) (by kernel_rfl) (by kernel_rfl) (fun t => by kernel_rfl) (fun x => by kernel_rfl)
theorem s_ref12_Ints : FSound cfgL ⟨⟨28, [.c (.sl (.one (.int .i64))), .c (.sl (.one (.int .i64)))], [.c .bool]⟩, Q17.ref12_Ints⟩ :=
  w_sound (W := ⟨real, Tryz.prog, fun _ => false, dsOf cfgL, []⟩) (H := ⟨[(4, [.val 5 (.c (.int .i64))], [0, 1])], [], 26, []⟩) (a := [.c (.sl (.one (.int .i64))), .c (.sl (.one (.int .i64)))]) (rs := [.c .bool]) ⟨rfl, rfl, rfl, rfl, nilT⟩ Q17.ref12_Ints 80 Tryz.func28 rfl (by kernel_rfl) (by kernel_rfl) (by kernel_rfl) (by kernel_rfl) (by kernel_rfl) (by kernel_rfl) (fun t => by kernel_rfl) (fun x => by kernel_rfl)
theorem s_ref01_Rows : FSound cfgL ⟨⟨29, [.c (.sl (.one .str)), .c (.sl (.one .str))], [.c .bool]⟩, Q9.ref01_Rows⟩ :=
  w_sound (W := ⟨real, Tryz.prog, fun _ => false, dsOf cfgL, []⟩) (H := ⟨[(4, [.val 5 (.c (.int .i64))], [0, 1])], [], 26, []⟩) (a := [.c (.sl (.one .str)), .c (.sl (.one .str))]) (rs := [.c .bool]) ⟨rfl, rfl, rfl, rfl, nilT⟩ Q9.ref01_Rows 80 Tryz.func29 rfl (by kernel_rfl) (by kernel_rfl) (by kernel_rfl) (by kernel_rfl) (by kernel_rfl) (by kernel_rfl) (fun t => by kernel_rfl) (fun x => by kernel_rfl)
theorem s_ref14_Puts : FSound cfgL ⟨⟨30, [.c (.sl (.cons (.int .i64) (.one .str))), .c (.sl (.cons (.int .i64) (.one .str)))], [.c .bool]⟩, Q17.ref14_Puts⟩ :=
  w_sound (W := ⟨real, Tryz.prog, fun _ => false, dsOf cfgL, []⟩) (H := ⟨[(4, [.val 5 (.c (.int .i64))], [0, 1])], [], 26, []⟩) (a := [.c (.sl (.cons (.int .i64) (.one .str))), .c (.sl (.cons (.int .i64) (.one .str)))]) (rs := [.c .bool]) ⟨rfl, rfl, rfl, rfl, nilT⟩ Q17.ref14_Puts 80 Tryz.func30 rfl (by kernel_rfl) (by kernel_rfl) (by kernel_rfl) (by kernel_rfl) (by kernel_rfl) (by kernel_rfl) (fun t => by kernel_rfl) (fun x => by kernel_rfl)
theorem s_ref17_Same : FSound cfgL ⟨⟨8, [.agg [.c (.int .i64), .c (.sl (.cons .str (.one .str))), .c (.sl (.cons .str (.cons .bool (.cons .str (.cons (.int .i64) (.one (.int .i64))))))), .c (.int .i64), .c (.int .i64), .c (.int .i64), .c (.int .i64), .c (.sl (.one (.int .i64))), .c (.sl (.cons .str (.cons .bool (.cons .str (.cons (.int .i64) (.one (.int .i64))))))), .c .bool, .c (.int .i64), .c (.int .i64), .c (.int .i64), .c (.int .i64), .c (.sl (.cons .str (.cons .bool (.cons .str (.cons (.int .i64) (.one (.int .i64))))))), .c (.sl (.one .str)), .c (.sl (.cons (.int .i64) (.one .str))), .c .bool], .agg [.c (.int .i64), .c (.sl (.cons .str (.one .str))), .c (.sl (.cons .str (.cons .bool (.cons .str (.cons (.int .i64) (.one (.int .i64))))))), .c (.int .i64), .c (.int .i64), .c (.int .i64), .c (.int .i64), .c (.sl (.one (.int .i64))), .c (.sl (.cons .str (.cons .bool (.cons .str (.cons (.int .i64) (.one (.int .i64))))))), .c .bool, .c (.int .i64), .c (.int .i64), .c (.int .i64), .c (.int .i64), .c (.sl (.cons .str (.cons .bool (.cons .str (.cons (.int .i64) (.one (.int .i64))))))), .c (.sl (.one .str)), .c (.sl (.cons (.int .i64) (.one .str))), .c .bool]], [.c .bool]⟩, Q17.ref17_Same⟩ :=
  w_sound (W := ⟨real, Tryz.prog, fun _ => false, dsOf cfgL, [⟨⟨26, [.c (.sl (.cons .str (.one .str))), .c (.sl (.cons .str (.one .str)))], [.c .bool]⟩, Q10.ref04_Same⟩, ⟨⟨27, [.c (.sl (.cons .str (.cons .bool (.cons .str (.cons (.int .i64) (.one (.int .i64))))))), .c (.sl (.cons .str (.cons .bool (.cons .str (.cons (.int .i64) (.one (.int .i64)))))))], [.c .bool]⟩, Q10.ref09_Same⟩, ⟨⟨28, [.c (.sl (.one (.int .i64))), .c (.sl (.one (.int .i64)))], [.c .bool]⟩, Q17.ref12_Ints⟩, ⟨⟨29, [.c (.sl (.one .str)), .c (.sl (.one .str))], [.c .bool]⟩, Q9.ref01_Rows⟩, ⟨⟨30, [.c (.sl (.cons (.int .i64) (.one .str))), .c (.sl (.cons (.int .i64) (.one .str)))], [.c .bool]⟩, Q17.ref14_Puts⟩]⟩) (H := ⟨[], [], 101, []⟩) (a := [.agg [.c (.int .i64), .c (.sl (.cons .str (.one .str))), .c (.sl (.cons .str (.cons .bool (.cons .str (.cons (.int .i64) (.one (.int .i64))))))), .c (.int .i64), .c (.int .i64), .c (.int .i64), .c (.int .i64), .c (.sl (.one (.int .i64))), .c (.sl (.cons .str (.cons .bool (.cons .str (.cons (.int .i64) (.one (.int .i64))))))), .c .bool, .c (.int .i64), .c (.int .i64), .c (.int .i64), .c (.int .i64), .c (.sl (.cons .str (.cons .bool (.cons .str (.cons (.int .i64) (.one (.int .i64))))))), .c (.sl (.one .str)), .c (.sl (.cons (.int .i64) (.one .str))), .c .bool], .agg [.c (.int .i64), .c (.sl (.cons .str (.one .str))), .c (.sl (.cons .str (.cons .bool (.cons .str (.cons (.int .i64) (.one (.int .i64))))))), .c (.int .i64), .c (.int .i64), .c (.int .i64), .c (.int .i64), .c (.sl (.one (.int .i64))), .c (.sl (.cons .str (.cons .bool (.cons .str (.cons (.int .i64) (.one (.int .i64))))))), .c .bool, .c (.int .i64), .c (.int .i64), .c (.int .i64), .c (.int .i64), .c (.sl (.cons .str (.cons .bool (.cons .str (.cons (.int .i64) (.one (.int .i64))))))), .c (.sl (.one .str)), .c (.sl (.cons (.int .i64) (.one .str))), .c .bool]]) (rs := [.c .bool]) ⟨rfl, rfl, rfl, rfl, (consT s_ref04_Same (consT s_ref09_Same (consT s_ref12_Ints (consT s_ref01_Rows (consT s_ref14_Puts nilT)))))⟩ Q17.ref17_Same 80 Tryz.func8 rfl (by kernel_rfl) (by kernel_rfl) (by kernel_rfl) (by kernel_rfl) (by kernel_rfl) (by kernel_rfl) (fun t => by kernel_rfl) (fun x => by kernel_rfl)
theorem s_stringslite_IndexByte : FSound cfgL ⟨⟨121, [.c .str, .c (.int .u8)], [.c (.int .i64)]⟩, Q9.stringslite_IndexByte⟩ :=
  w_sound (W := ⟨real, Tryz.prog, fun _ => false, dsOf cfgL, [⟨⟨126, [.c .str, .c (.int .u8)], [.c (.int .i64)]⟩, Q9.bytealg_IndexByteString⟩]⟩) (H := ⟨[], [], 8, []⟩) (a := [.c .str, .c (.int .u8)]) (rs := [.c (.int .i64)]) ⟨rfl, rfl, rfl, rfl, (consT s_bytealg_IndexByteString nilT)⟩ Q9.stringslite_IndexByte 80 Tryz.func121 rfl (by kernel_rfl) (by kernel_rfl) (by kernel_rfl) (by kernel_rfl) (by kernel_rfl) (by kernel_rfl) (fun t => by kernel_rfl) (fun x => by kernel_rfl)
theorem s_strings_IndexByte : FSound cfgL ⟨⟨117, [.c .str, .c (.int .u8)], [.c (.int .i64)]⟩, Q9.strings_IndexByte⟩ :=
  w_sound (W := ⟨real, Tryz.prog, fun _ => false, dsOf cfgL, [⟨⟨121, [.c .str, .c (.int .u8)], [.c (.int .i64)]⟩, Q9.stringslite_IndexByte⟩]⟩) (H := ⟨[], [], 8, []⟩) (a := [.c .str, .c (.int .u8)]) (rs := [.c (.int .i64)]) ⟨rfl, rfl, rfl, rfl, (consT s_stringslite_IndexByte nilT)⟩ Q9.strings_IndexByte 80 Tryz.func117 rfl (by kernel_rfl) (by kernel_rfl) (by kernel_rfl) (by kernel_rfl) (by kernel_rfl) (by kernel_rfl) (fun t => by kernel_rfl) (fun x => by kernel_rfl)
theorem s_path_Name : FSound cfgL ⟨⟨114, [.c .str], [.c .bool]⟩, Q9.path_Name⟩ :=
  w_sound (W := ⟨real, Tryz.prog, fun _ => false, dsOf cfgL, [⟨⟨117, [.c .str, .c (.int .u8)], [.c (.int .i64)]⟩, Q9.strings_IndexByte⟩]⟩) (H := ⟨[(2, [.val 9 (.c (.int .i64))], [0, 7, 8])], [], 51, []⟩) (a := [.c .str]) (rs := [.c .bool]) ⟨rfl, rfl, rfl, rfl, (consT s_strings_IndexByte nilT)⟩ Q9.path_Name 80 Tryz.func114 rfl (by kernel_rfl) (by kernel_rfl) (by kernel_rfl) (by kernel_rfl) (by kernel_rfl) (by kernel_rfl) (fun t => by kernel_rfl) (fun x => by kernel_rfl)
theorem s_path_Names : FSound cfgL ⟨⟨107, [.c .str], [.c (.sl (.one .str))]⟩, Q9.path_Names⟩ :=
  w_sound (W := ⟨real, Tryz.prog, fun _ => false, dsOf cfgL, [⟨⟨113, [.c .str, .c .str], [.c (.sl (.one .str))]⟩, Q9.strings_Split⟩, ⟨⟨114, [.c .str], [.c .bool]⟩, Q9.path_Name⟩]⟩) (H := ⟨[(5, [.val 13 (.c (.int .i64))], [3, 11, 12])], [], 22, []⟩) (a := [.c .str]) (rs := [.c (.sl (.one .str))]) ⟨rfl, rfl, rfl, rfl, (consT s_strings_Split (consT s_path_Name nilT))⟩ Q9.path_Names 80 Tryz.func107 rfl (by kernel_rfl) (by kernel_rfl) (by kernel_rfl) (by kernel_rfl) (by kernel_rfl) (by kernel_rfl) (fun t => by kernel_rfl) (fun x => by kernel_rfl)
theorem s_path_Right : FSound cfgL ⟨⟨87, [.c .str], [.c .bool]⟩, Q9.path_Right⟩ :=
  w_sound (W := ⟨real, Tryz.prog, fun _ => false, dsOf cfgL, [⟨⟨107, [.c .str], [.c (.sl (.one .str))]⟩, Q9.path_Names⟩]⟩) (H := ⟨[], [], 7, []⟩) (a := [.c .str]) (rs := [.c .bool]) ⟨rfl, rfl, rfl, rfl, (consT s_path_Names nilT)⟩ Q9.path_Right 80 Tryz.func87 rfl (by kernel_rfl) (by kernel_rfl) (by kernel_rfl) (by kernel_rfl) (by kernel_rfl) (by kernel_rfl) (fun t => by kernel_rfl) (fun x => by kernel_rfl)
theorem s_clock_Right : FSound cfgL ⟨⟨88, [.agg [.c (.int .i64), .c (.int .i64)]], [.c .bool]⟩, Q9.clock_Right⟩ :=
  w_sound (W := ⟨real, Tryz.prog, fun _ => false, dsOf cfgL, []⟩) (H := ⟨[], [], 17, []⟩) (a := [.agg [.c (.int .i64), .c (.int .i64)]]) (rs := [.c .bool]) ⟨rfl, rfl, rfl, rfl, nilT⟩ Q9.clock_Right 80 Tryz.func88 rfl (by kernel_rfl) (by kernel_rfl) (by kernel_rfl) (by kernel_rfl) (by kernel_rfl) (by kernel_rfl) (fun t => by kernel_rfl) (fun x => by kernel_rfl)
theorem s_scan_files : FSound cfgL ⟨⟨89, [.c (.sl (.cons .str (.cons .bool (.cons .str (.cons (.int .i64) (.one (.int .i64)))))))], [.fr (.cons .str (.one .str))]⟩, Q9.scan_files⟩ :=
  w_sound (W := ⟨real, Tryz.prog, fun _ => false, dsOf cfgL, []⟩) (H := ⟨[(3, [.val 3 (.fr (.cons .str (.one .str))), .val 8 (.c (.int .i64))], [6, 7])], [], 24, []⟩) (a := [.c (.sl (.cons .str (.cons .bool (.cons .str (.cons (.int .i64) (.one (.int .i64)))))))]) (rs := [.fr (.cons .str (.one .str))]) ⟨rfl, rfl, rfl, rfl, nilT⟩ Q9.scan_files 80 Tryz.func89 rfl (by kernel_rfl) (by kernel_rfl) (by kernel_rfl) (by kernel_rfl) (by kernel_rfl) (by kernel_rfl) (fun t => by kernel_rfl) (fun x => by kernel_rfl)
theorem s_stringslite_HasPrefix : FSound cfgL ⟨⟨115, [.c .str, .c .str], [.c .bool]⟩, Q9.stringslite_HasPrefix⟩ :=
  w_sound (W := ⟨real, Tryz.prog, fun _ => false, dsOf cfgL, []⟩) (H := ⟨[], [], 18, []⟩) (a := [.c .str, .c .str]) (rs := [.c .bool]) ⟨rfl, rfl, rfl, rfl, nilT⟩ Q9.stringslite_HasPrefix 80 Tryz.func115 rfl (by kernel_rfl) (by kernel_rfl) (by kernel_rfl) (by kernel_rfl) (by kernel_rfl) (by kernel_rfl) (fun t => by kernel_rfl) (fun x => by kernel_rfl)
theorem s_strings_HasPrefix : FSound cfgL ⟨⟨109, [.c .str, .c .str], [.c .bool]⟩, Q9.strings_HasPrefix⟩ :=
  w_sound (W := ⟨real, Tryz.prog, fun _ => false, dsOf cfgL, [⟨⟨115, [.c .str, .c .str], [.c .bool]⟩, Q9.stringslite_HasPrefix⟩]⟩) (H := ⟨[], [], 8, []⟩) (a := [.c .str, .c .str]) (rs := [.c .bool]) ⟨rfl, rfl, rfl, rfl, (consT s_stringslite_HasPrefix nilT)⟩ Q9.strings_HasPrefix 80 Tryz.func109 rfl (by kernel_rfl) (by kernel_rfl) (by kernel_rfl) (by kernel_rfl) (by kernel_rfl) (by kernel_rfl) (fun t => by kernel_rfl) (fun x => by kernel_rfl)
theorem s_path_Under : FSound cfgL ⟨⟨93, [.c .str, .c .str], [.c .bool]⟩, Q9.path_Under⟩ :=
  w_sound (W := ⟨real, Tryz.prog, fun _ => false, dsOf cfgL, [⟨⟨87, [.c .str], [.c .bool]⟩, Q9.path_Right⟩, ⟨⟨109, [.c .str, .c .str], [.c .bool]⟩, Q9.strings_HasPrefix⟩]⟩) (H := ⟨[], [], 17, []⟩) (a := [.c .str, .c .str]) (rs := [.c .bool]) ⟨rfl, rfl, rfl, rfl, (consT s_path_Right (consT s_strings_HasPrefix nilT))⟩ Q9.path_Under 80 Tryz.func93 rfl (by kernel_rfl) (by kernel_rfl) (by kernel_rfl) (by kernel_rfl) (by kernel_rfl) (by kernel_rfl) (fun t => by kernel_rfl) (fun x => by kernel_rfl)
theorem s_tree_Right_1 : FSound cfgL ⟨⟨92, [.agg [.c .str, .c .str], .ref [.c .str, .c .str] 0], [.c .bool]⟩, Q9.tree_Right_1⟩ :=
  w_sound (W := ⟨real, Tryz.prog, fun _ => false, dsOf cfgL, [⟨⟨93, [.c .str, .c .str], [.c .bool]⟩, Q9.path_Under⟩]⟩) (H := ⟨[], [], 9, []⟩) (a := [.agg [.c .str, .c .str], .ref [.c .str, .c .str] 0]) (rs := [.c .bool]) ⟨rfl, rfl, rfl, rfl, (consT s_path_Under nilT)⟩ Q9.tree_Right_1 80 Tryz.func92 rfl (by kernel_rfl) (by kernel_rfl) (by kernel_rfl) (by kernel_rfl) (by kernel_rfl) (by kernel_rfl) (fun t => by kernel_rfl) (fun x => by kernel_rfl)
theorem s_slices_IndexFunc_File_tree_Right_1 : FSound cfgL ⟨⟨110, [.c (.sl (.cons .str (.one .str))), .fn 92 [] [.ref [.c .str, .c .str] 0]], [.c (.int .i64)]⟩, Q9.slices_IndexFunc_File_tree_Right_1⟩ :=
  w_sound (W := ⟨real, Tryz.prog, fun _ => false, dsOf cfgL, [⟨⟨92, [.agg [.c .str, .c .str], .ref [.c .str, .c .str] 0], [.c .bool]⟩, Q9.tree_Right_1⟩]⟩) (H := ⟨[(2, [.val 8 (.c (.int .i64))], [0, 1, 7])], [], 19, []⟩) (a := [.c (.sl (.cons .str (.one .str))), .fn 92 [] [.ref [.c .str, .c .str] 0]]) (rs := [.c (.int .i64)]) ⟨rfl, rfl, rfl, rfl, (consT s_tree_Right_1 nilT)⟩ Q9.slices_IndexFunc_File_tree_Right_1 80 Tryz.func110 rfl (by kernel_rfl) (by kernel_rfl) (by kernel_rfl) (by kernel_rfl) (by kernel_rfl) (by kernel_rfl) (fun t => by kernel_rfl) (fun x => by kernel_rfl)
theorem s_slices_ContainsFunc_File_tree_Right_1 : FSound cfgL ⟨⟨94, [.c (.sl (.cons .str (.one .str))), .fn 92 [] [.ref [.c .str, .c .str] 0]], [.c .bool]⟩, Q9.slices_ContainsFunc_File_tree_Right_1⟩ :=
  w_sound (W := ⟨real, Tryz.prog, fun _ => false, dsOf cfgL, [⟨⟨110, [.c (.sl (.cons .str (.one .str))), .fn 92 [] [.ref [.c .str, .c .str] 0]], [.c (.int .i64)]⟩, Q9.slices_IndexFunc_File_tree_Right_1⟩]⟩) (H := ⟨[], [], 9, []⟩) (a := [.c (.sl (.cons .str (.one .str))), .fn 92 [] [.ref [.c .str, .c .str] 0]]) (rs := [.c .bool]) ⟨rfl, rfl, rfl, rfl, (consT s_slices_IndexFunc_File_tree_Right_1 nilT)⟩ Q9.slices_ContainsFunc_File_tree_Right_1 80 Tryz.func94 rfl (by kernel_rfl) (by kernel_rfl) (by kernel_rfl) (by kernel_rfl) (by kernel_rfl) (by kernel_rfl) (fun t => by kernel_rfl) (fun x => by kernel_rfl)
theorem s_tree_Right : FSound cfgL ⟨⟨44, [.c (.sl (.cons .str (.one .str)))], [.c .bool]⟩, Q9.tree_Right⟩ :=
  w_sound (W := ⟨real, Tryz.prog, fun _ => false, dsOf cfgL, [⟨⟨87, [.c .str], [.c .bool]⟩, Q9.path_Right⟩, ⟨⟨94, [.c (.sl (.cons .str (.one .str))), .fn 92 [] [.ref [.c .str, .c .str] 0]], [.c .bool]⟩, Q9.slices_ContainsFunc_File_tree_Right_1⟩]⟩) (H := ⟨[(4, [.val 11 (.c (.int .i64))], [0, 9, 10])], [], 48, []⟩) (a := [.c (.sl (.cons .str (.one .str)))]) (rs := [.c .bool]) ⟨rfl, rfl, rfl, rfl, (consT s_path_Right (consT s_slices_ContainsFunc_File_tree_Right_1 nilT))⟩ Q9.tree_Right 80 Tryz.func44 rfl (by kernel_rfl) (by kernel_rfl) (by kernel_rfl) (by kernel_rfl) (by kernel_rfl) (by kernel_rfl) (fun t => by kernel_rfl) (fun x => by kernel_rfl)
theorem s_scan_Right : FSound cfgL ⟨⟨42, [.c (.sl (.cons .str (.cons .bool (.cons .str (.cons (.int .i64) (.one (.int .i64)))))))], [.c .bool]⟩, Q9.scan_Right⟩ :=
  w_sound (W := ⟨real, Tryz.prog, fun _ => false, dsOf cfgL, [⟨⟨87, [.c .str], [.c .bool]⟩, Q9.path_Right⟩, ⟨⟨88, [.agg [.c (.int .i64), .c (.int .i64)]], [.c .bool]⟩, Q9.clock_Right⟩, ⟨⟨89, [.c (.sl (.cons .str (.cons .bool (.cons .str (.cons (.int .i64) (.one (.int .i64)))))))], [.fr (.cons .str (.one .str))]⟩, Q9.scan_files⟩, ⟨⟨44, [.c (.sl (.cons .str (.one .str)))], [.c .bool]⟩, Q9.tree_Right⟩]⟩) (H := ⟨[(2, [.val 7 (.c (.int .i64))], [0, 5, 6])], [], 62, []⟩) (a := [.c (.sl (.cons .str (.cons .bool (.cons .str (.cons (.int .i64) (.one (.int .i64)))))))]) (rs := [.c .bool]) ⟨rfl, rfl, rfl, rfl, (consT s_path_Right (consT s_clock_Right (consT s_scan_files (consT s_tree_Right nilT))))⟩ Q9.scan_Right 80 Tryz.func42 rfl (by kernel_rfl) (by kernel_rfl) (by kernel_rfl) (by kernel_rfl) (by kernel_rfl) (by kernel_rfl) (fun t => by kernel_rfl) (fun x => by kernel_rfl)
theorem s_state_within_1 : FSound cfgL ⟨⟨91, [.c (.int .i64), .ref [.c (.int .i64)] 0], [.c .bool]⟩, Q17.state_within_1⟩ :=
  w_sound (W := ⟨real, Tryz.prog, fun _ => false, dsOf cfgL, []⟩) (H := ⟨[], [], 11, []⟩) (a := [.c (.int .i64), .ref [.c (.int .i64)] 0]) (rs := [.c .bool]) ⟨rfl, rfl, rfl, rfl, nilT⟩ Q17.state_within_1 80 Tryz.func91 rfl (by kernel_rfl) (by kernel_rfl) (by kernel_rfl) (by kernel_rfl) (by kernel_rfl) (by kernel_rfl) (fun t => by kernel_rfl) (fun x => by kernel_rfl)
theorem s_slices_IndexFunc_int_state_within_1 : FSound cfgL ⟨⟨108, [.c (.sl (.one (.int .i64))), .fn 91 [] [.ref [.c (.int .i64)] 0]], [.c (.int .i64)]⟩, Q17.slices_IndexFunc_int_state_within_1⟩ :=
  w_sound (W := ⟨real, Tryz.prog, fun _ => false, dsOf cfgL, [⟨⟨91, [.c (.int .i64), .ref [.c (.int .i64)] 0], [.c .bool]⟩, Q17.state_within_1⟩]⟩) (H := ⟨[(2, [.val 8 (.c (.int .i64))], [0, 1, 7])], [], 19, []⟩) (a := [.c (.sl (.one (.int .i64))), .fn 91 [] [.ref [.c (.int .i64)] 0]]) (rs := [.c (.int .i64)]) ⟨rfl, rfl, rfl, rfl, (consT s_state_within_1 nilT)⟩ Q17.slices_IndexFunc_int_state_within_1 80 Tryz.func108 rfl (by kernel_rfl) (by kernel_rfl) (by kernel_rfl) (by kernel_rfl) (by kernel_rfl) (by kernel_rfl) (fun t => by kernel_rfl) (fun x => by kernel_rfl)
theorem s_slices_ContainsFunc_int_state_within_1 : FSound cfgL ⟨⟨90, [.c (.sl (.one (.int .i64))), .fn 91 [] [.ref [.c (.int .i64)] 0]], [.c .bool]⟩, Q17.slices_ContainsFunc_int_state_within_1⟩ :=
  w_sound (W := ⟨real, Tryz.prog, fun _ => false, dsOf cfgL, [⟨⟨108, [.c (.sl (.one (.int .i64))), .fn 91 [] [.ref [.c (.int .i64)] 0]], [.c (.int .i64)]⟩, Q17.slices_IndexFunc_int_state_within_1⟩]⟩) (H := ⟨[], [], 9, []⟩) (a := [.c (.sl (.one (.int .i64))), .fn 91 [] [.ref [.c (.int .i64)] 0]]) (rs := [.c .bool]) ⟨rfl, rfl, rfl, rfl, (consT s_slices_IndexFunc_int_state_within_1 nilT)⟩ Q17.slices_ContainsFunc_int_state_within_1 80 Tryz.func90 rfl (by kernel_rfl) (by kernel_rfl) (by kernel_rfl) (by kernel_rfl) (by kernel_rfl) (by kernel_rfl) (fun t => by kernel_rfl) (fun x => by kernel_rfl)
theorem s_state_within : FSound cfgL ⟨⟨43, [.c (.int .i64), .c (.sl (.one (.int .i64)))], [.c .bool]⟩, Q17.state_within⟩ :=
  w_sound (W := ⟨real, Tryz.prog, fun _ => false, dsOf cfgL, [⟨⟨90, [.c (.sl (.one (.int .i64))), .fn 91 [] [.ref [.c (.int .i64)] 0]], [.c .bool]⟩, Q17.slices_ContainsFunc_int_state_within_1⟩]⟩) (H := ⟨[], [], 9, []⟩) (a := [.c (.int .i64), .c (.sl (.one (.int .i64)))]) (rs := [.c .bool]) ⟨rfl, rfl, rfl, rfl, (consT s_slices_ContainsFunc_int_state_within_1 nilT)⟩ Q17.state_within 80 Tryz.func43 rfl (by kernel_rfl) (by kernel_rfl) (by kernel_rfl) (by kernel_rfl) (by kernel_rfl) (by kernel_rfl) (fun t => by kernel_rfl) (fun x => by kernel_rfl)
theorem s_state_chained : FSound cfgL ⟨⟨45, [.agg [.c (.int .i64), .c (.sl (.cons .str (.one .str))), .c (.sl (.cons .str (.cons .bool (.cons .str (.cons (.int .i64) (.one (.int .i64))))))), .c (.int .i64), .c (.int .i64), .c (.int .i64), .c (.int .i64), .c (.sl (.one (.int .i64))), .c (.sl (.cons .str (.cons .bool (.cons .str (.cons (.int .i64) (.one (.int .i64))))))), .c .bool, .c (.int .i64), .c (.int .i64), .c (.int .i64), .c (.int .i64), .c (.sl (.cons .str (.cons .bool (.cons .str (.cons (.int .i64) (.one (.int .i64))))))), .c (.sl (.one .str)), .c (.sl (.cons (.int .i64) (.one .str))), .c .bool]], [.c .bool]⟩, Q17.state_chained⟩ :=
  w_sound (W := ⟨real, Tryz.prog, fun _ => false, dsOf cfgL, [⟨⟨43, [.c (.int .i64), .c (.sl (.one (.int .i64)))], [.c .bool]⟩, Q17.state_within⟩]⟩) (H := ⟨[], [], 45, []⟩) (a := [.agg [.c (.int .i64), .c (.sl (.cons .str (.one .str))), .c (.sl (.cons .str (.cons .bool (.cons .str (.cons (.int .i64) (.one (.int .i64))))))), .c (.int .i64), .c (.int .i64), .c (.int .i64), .c (.int .i64), .c (.sl (.one (.int .i64))), .c (.sl (.cons .str (.cons .bool (.cons .str (.cons (.int .i64) (.one (.int .i64))))))), .c .bool, .c (.int .i64), .c (.int .i64), .c (.int .i64), .c (.int .i64), .c (.sl (.cons .str (.cons .bool (.cons .str (.cons (.int .i64) (.one (.int .i64))))))), .c (.sl (.one .str)), .c (.sl (.cons (.int .i64) (.one .str))), .c .bool]]) (rs := [.c .bool]) ⟨rfl, rfl, rfl, rfl, (consT s_state_within nilT)⟩ Q17.state_chained 80 Tryz.func45 rfl (by kernel_rfl) (by kernel_rfl) (by kernel_rfl) (by kernel_rfl) (by kernel_rfl) (by kernel_rfl) (fun t => by kernel_rfl) (fun x => by kernel_rfl)
theorem s_path_Sorted : FSound cfgL ⟨⟨46, [.c (.sl (.one .str))], [.c .bool]⟩, Q9.path_Sorted⟩ :=
  w_sound (W := ⟨real, Tryz.prog, fun _ => false, dsOf cfgL, [⟨⟨87, [.c .str], [.c .bool]⟩, Q9.path_Right⟩]⟩) (H := ⟨[(2, [.val 7 (.c (.int .i64))], [0, 5, 6])], [], 29, []⟩) (a := [.c (.sl (.one .str))]) (rs := [.c .bool]) ⟨rfl, rfl, rfl, rfl, (consT s_path_Right nilT)⟩ Q9.path_Sorted 80 Tryz.func46 rfl (by kernel_rfl) (by kernel_rfl) (by kernel_rfl) (by kernel_rfl) (by kernel_rfl) (by kernel_rfl) (fun t => by kernel_rfl) (fun x => by kernel_rfl)
theorem s_state_Right : FSound cfgL ⟨⟨13, [.agg [.c (.int .i64), .c (.sl (.cons .str (.one .str))), .c (.sl (.cons .str (.cons .bool (.cons .str (.cons (.int .i64) (.one (.int .i64))))))), .c (.int .i64), .c (.int .i64), .c (.int .i64), .c (.int .i64), .c (.sl (.one (.int .i64))), .c (.sl (.cons .str (.cons .bool (.cons .str (.cons (.int .i64) (.one (.int .i64))))))), .c .bool, .c (.int .i64), .c (.int .i64), .c (.int .i64), .c (.int .i64), .c (.sl (.cons .str (.cons .bool (.cons .str (.cons (.int .i64) (.one (.int .i64))))))), .c (.sl (.one .str)), .c (.sl (.cons (.int .i64) (.one .str))), .c .bool]], [.c .bool]⟩, Q17.state_Right⟩ :=
  w_sound (W := ⟨real, Tryz.prog, fun _ => false, dsOf cfgL, [⟨⟨42, [.c (.sl (.cons .str (.cons .bool (.cons .str (.cons (.int .i64) (.one (.int .i64)))))))], [.c .bool]⟩, Q9.scan_Right⟩, ⟨⟨43, [.c (.int .i64), .c (.sl (.one (.int .i64)))], [.c .bool]⟩, Q17.state_within⟩, ⟨⟨44, [.c (.sl (.cons .str (.one .str)))], [.c .bool]⟩, Q9.tree_Right⟩, ⟨⟨45, [.agg [.c (.int .i64), .c (.sl (.cons .str (.one .str))), .c (.sl (.cons .str (.cons .bool (.cons .str (.cons (.int .i64) (.one (.int .i64))))))), .c (.int .i64), .c (.int .i64), .c (.int .i64), .c (.int .i64), .c (.sl (.one (.int .i64))), .c (.sl (.cons .str (.cons .bool (.cons .str (.cons (.int .i64) (.one (.int .i64))))))), .c .bool, .c (.int .i64), .c (.int .i64), .c (.int .i64), .c (.int .i64), .c (.sl (.cons .str (.cons .bool (.cons .str (.cons (.int .i64) (.one (.int .i64))))))), .c (.sl (.one .str)), .c (.sl (.cons (.int .i64) (.one .str))), .c .bool]], [.c .bool]⟩, Q17.state_chained⟩, ⟨⟨46, [.c (.sl (.one .str))], [.c .bool]⟩, Q9.path_Sorted⟩]⟩) (H := ⟨[(8, [.box 1 [.c (.int .i64), .c (.sl (.cons .str (.one .str))), .c (.sl (.cons .str (.cons .bool (.cons .str (.cons (.int .i64) (.one (.int .i64))))))), .c (.int .i64), .c (.int .i64), .c (.int .i64), .c (.int .i64), .c (.sl (.one (.int .i64))), .c (.sl (.cons .str (.cons .bool (.cons .str (.cons (.int .i64) (.one (.int .i64))))))), .c .bool, .c (.int .i64), .c (.int .i64), .c (.int .i64), .c (.int .i64), .c (.sl (.cons .str (.cons .bool (.cons .str (.cons (.int .i64) (.one (.int .i64))))))), .c (.sl (.one .str)), .c (.sl (.cons (.int .i64) (.one .str))), .c .bool], .val 26 (.c (.int .i64))], [24, 25])], [], 95, []⟩) (a := [.agg [.c (.int .i64), .c (.sl (.cons .str (.one .str))), .c (.sl (.cons .str (.cons .bool (.cons .str (.cons (.int .i64) (.one (.int .i64))))))), .c (.int .i64), .c (.int .i64), .c (.int .i64), .c (.int .i64), .c (.sl (.one (.int .i64))), .c (.sl (.cons .str (.cons .bool (.cons .str (.cons (.int .i64) (.one (.int .i64))))))), .c .bool, .c (.int .i64), .c (.int .i64), .c (.int .i64), .c (.int .i64), .c (.sl (.cons .str (.cons .bool (.cons .str (.cons (.int .i64) (.one (.int .i64))))))), .c (.sl (.one .str)), .c (.sl (.cons (.int .i64) (.one .str))), .c .bool]]) (rs := [.c .bool]) ⟨rfl, rfl, rfl, rfl, (consT s_scan_Right (consT s_state_within (consT s_tree_Right (consT s_state_chained (consT s_path_Sorted nilT)))))⟩ Q17.state_Right 80 Tryz.func13 rfl (by kernel_rfl) (by kernel_rfl) (by kernel_rfl) (by kernel_rfl) (by kernel_rfl) (by kernel_rfl) (fun t => by kernel_rfl) (fun x => by kernel_rfl)
end Go.Proofs.W.Q17
namespace Go.Proofs.V.L17
open Go Go.Proofs Go.Proofs.V.E
set_option linter.unusedVariables false
set_option linter.unusedSimpArgs false
set_option maxRecDepth 100000
def adO (lab : Nat) : Own → Own
  | .fresh => .id lab
  | o => o
theorem leave_at (al : Nat → Bool) (v : Value) : leave1 al (.at v) = (.at v, al) := rfl
end Go.Proofs.V.L17
