/- The seat of chapter 09: what lies outside of the evaluator; strings.Split. -/
import Derived.Test.YtnjfjjmlonalhaaDoorProg
import Derived.Test.YtnjfjjmlonalhaaDoorK14
import Derived.Test.YtnjfjjmlonalhaaDoorK12
import Derived.KernelRfl
namespace Go.Proofs.V.R9
open Go Go.Proofs Go.Proofs.V.E
set_option linter.unusedVariables false
set_option linter.unusedSimpArgs false
set_option maxRecDepth 100000
set_option maxHeartbeats 1000000
def ext09 (f : Nat) : Option (List AV → Option AV) := if f = 80 then some extCount else if f = 82 then some extIndex else none
def heap09 (f t : Nat) : Bool := (f == 72 && t == 27) || (f == 31 && (t == 22 || t == 23))
noncomputable def cfgX (z : Option (List AV → Option AV)) : Cfg := { P := Tryd.prog, ext := fun f => if f = 12 then z else ext09 f, eff := fun f => f == 31, bad := [], heap := heap09, frz := fun f => f == 72 }
variable {z : Option (List AV → Option AV)}
theorem mixed : (cfgX z).P.follows .mixedOrders = true := by kernel_rfl
theorem ext_ok (hz : ∀ s xs r, z = some s → s xs = some r → CSound Tryd.prog 12 xs [] r []) : ∀ g s xs r, (cfgX z).ext g = some s → s xs = some r → CSound (cfgX z).P g xs [] r [] := by
  intro g s xs r hg hs
  have hg : (if g = 12 then z else ext09 g) = some s := hg
  by_cases h12 : g = 12
  · subst h12
    rw [if_pos rfl] at hg
    exact hz s xs r hg hs
  rw [if_neg h12] at hg
  have hg : ext09 g = some s := hg
  unfold ext09 at hg
  split at hg
  · rename_i h; subst h
    cases hg
    exact extCount_sound (P := Tryd.prog) Tryd.func80 (by kernel_rfl) (by kernel_rfl) (by kernel_rfl) (by kernel_rfl) hs
  · split at hg
    · rename_i h; subst h
      cases hg
      exact extIndex_sound (P := Tryd.prog) Tryd.func82 (by kernel_rfl) (by kernel_rfl) (by kernel_rfl) (by kernel_rfl) hs
    · cases hg
theorem index81 (s : BS) : ∃ m : Int, callQ (cfgX z) (evK (cfgX z)) 76 [ST s, ST [47]] = some (I64 m) ∧ m = Lib.indexByte s 47 := by
  have key : ∃ m : Int, callQ (cfgX z) (evK (cfgX z)) 81 [ST s, ST [47]] = some (I64 m) ∧ m = Lib.indexByte s 47 := by
    suffices h : ∃ r H', evK (cfgX z) 81 [ST s, ST [47]] [] = some (r, H') ∧ (∃ m : Int, r = I64 m ∧ m = Lib.indexByte s 47) ∧ H' = [] by
      obtain ⟨r, H', h, ⟨b, rfl, hb⟩, rfl⟩ := h
      exact ⟨b, callQ_of (by kernel_rfl) h, hb⟩
    refine evK_ofE (P := fun r H' => (∃ m : Int, r = I64 m ∧ m = Lib.indexByte s 47) ∧ H' = []) Tryd.func81 rfl (of_decide_eq_true (by kernel_rfl)) (by kernel_rfl) (by kernel_rfl) rfl ?_
    unfold Tryd.f81
    dsimp only
    refine aw_sk 10 (by kernel_rfl) ?_
    refine aw_sk 10 (by kernel_rfl) ?_
    refine aw_seq (aw_block (aw_sk 10 (by kernel_rfl) ?_))
    refine aw_cond (t := ((⟨⟨[47]⟩⟩ : ByteArray).toList == (⟨⟨s⟩⟩ : ByteArray).toList)) (by kernel_rfl) (fun h => ?_) (fun _ => ?_)
    · have hs : s = [47] := by
        have := neS (a := [47]) (b := s)
        rw [h] at this
        exact (by simpa using this.symm : [47] = s).symm
      refine aw_sk 10 (by kernel_rfl) ?_
      refine aw_ret ?_
      exact ⟨.inr rfl, [I64 0], by kernel_rfl, by kernel_rfl, ⟨0, by kernel_rfl, by rw [hs]; decide⟩, by kernel_rfl⟩
    · refine aw_sk 10 (by kernel_rfl) ?_
      refine aw_cond (t := true) (by kernel_rfl) (fun _ => ?_) (fun h => by cases h)
      refine aw_sk 40 (by kernel_rfl) ?_
      refine aw_ret ?_
      exact ⟨.inr rfl, [I64 (Lib.indexByte s 47)], by kernel_rfl, by kernel_rfl, ⟨Lib.indexByte s 47, by kernel_rfl, rfl⟩, by kernel_rfl⟩
  obtain ⟨m, h, hm⟩ := key
  refine ⟨m, callQ_of (by kernel_rfl) ?_, hm⟩
  refine evK_of Tryd.func76 rfl (of_decide_eq_true (by kernel_rfl)) (by kernel_rfl) (by kernel_rfl) rfl ?_
  unfold Tryd.f76
  dsimp only
  refine aw_sk 10 (by kernel_rfl) ?_
  refine aw_sr (ow_k 2 10 (by kernel_rfl) ?_)
  refine ow_callG (k := 81) (first := []) (captured := []) (xs := [ST s, ST [47]]) (r := I64 m) (by kernel_rfl) (by kernel_rfl) (by kernel_rfl) (by kernel_rfl) (by kernel_rfl) (by kernel_rfl) h (by kernel_rfl) (by kernel_rfl) ?_
  refine ow_all 10 (by kernel_rfl) ?_
  refine aw_ret ?_
  exact ⟨.inr rfl, [I64 m], by kernel_rfl, by kernel_rfl, by kernel_rfl, by kernel_rfl⟩
set_option maxHeartbeats 2000000 in
theorem split72 (s : BS) (hs : s.length ≤ 1000000) : ∃ ws : List BS, ws = spl s ∧ evK (cfgX z) 72 [ST s, ST [47], I64 0, I64 (-1)] [] = some (.slice (ws.map rowS) false .no, []) := by
  have hcl : Lib.countByte s 47 ≤ s.length := List.count_le_length
  suffices h : ∃ r, evK (cfgX z) 72 [ST s, ST [47], I64 0, I64 (-1)] [] = some (r, []) ∧ (∃ ws : List BS, ws = spl s ∧ r = .slice (ws.map rowS) false .no) by
    obtain ⟨r, h, ws, h1, rfl⟩ := h
    exact ⟨ws, h1, h⟩
  refine evK_ofZE (P := fun r => ∃ ws : List BS, ws = spl s ∧ r = .slice (ws.map rowS) false .no) Tryd.func72 rfl (of_decide_eq_true (by kernel_rfl)) (by kernel_rfl) (by kernel_rfl) rfl ?_
  unfold Tryd.f72
  dsimp only
  refine aw_sk 10 (by kernel_rfl) ?_
  refine aw_assoc (aw_sk 10 (by kernel_rfl) ?_)
  refine aw_sc false (by kernel_rfl) (fun h => by cases h) (fun _ => ?_)
  refine aw_sskip (aw_assoc (aw_sk 10 (by kernel_rfl) ?_))
  refine aw_sc false (by kernel_rfl) (fun h => by cases h) (fun _ => ?_)
  refine aw_sskip (aw_assoc (aw_sk 10 (by kernel_rfl) ?_))
  refine aw_sc true (by kernel_rfl) (fun _ => ?_) (fun h => by cases h)
  refine aw_sk 60 (by kernel_rfl) ?_
  refine aw_sk 10 (by kernel_rfl) ?_
  have hw1 : IntKind.i64.wrap ((Lib.countByte s 47 : Nat) + 1 : Int) = ((Lib.countByte s 47 + 1 : Nat) : Int) := succ64 (by omega)
  have hw2 : IntKind.i64.wrap ((s.length : Nat) + 1 : Int) = ((s.length + 1 : Nat) : Int) := succ64 (by omega)
  refine aw_absE 66 [] [] ((cfgX z).heap 72) [(0, ST s), (1, ST [47]), (2, I64 0), (3, I64 (Lib.countByte s 47 + 1 : Nat))]
    [(0, ST s), (1, ST [47]), (2, I64 0), (3, I64 (if IntKind.i64.wrap ((s.length : Nat) + 1 : Int) < IntKind.i64.wrap ((Lib.countByte s 47 : Nat) + 1 : Int) then IntKind.i64.wrap ((s.length : Nat) + 1 : Int) else IntKind.i64.wrap ((Lib.countByte s 47 : Nat) + 1 : Int)))]
    (by rw [hw1, hw2, if_neg (by omega)]) rfl (by kernel_rfl) (fun t1 c1 al1 => ?_)
  generalize hN : Lib.countByte s 47 + 1 = N
  have hN0 : N ≠ 0 := by omega
  have hN1 : N ≤ 1000001 := by omega
  refine aw_sr (ow_k 1 10 (by kernel_rfl) ?_)
  refine ow_mk (n := N) (e := 9) (z := [ST []]) (sz := 1) (by_ := 16) hN0 (by omega) (by omega) (by kernel_rfl) (by kernel_rfl) (by kernel_rfl) (by kernel_rfl) (by kernel_rfl) (by kernel_rfl) (by kernel_rfl) (by kernel_rfl) (by kernel_rfl) (by kernel_rfl) (by kernel_rfl) ?_
  refine ow_all 10 (by kernel_rfl) ?_
  refine aw_sk 10 (by kernel_rfl) ?_
  refine aw_sk 10 (by kernel_rfl) ?_
  have hw3 : IntKind.i64.wrap ((N : Nat) - 1 : Int) = ((N - 1 : Nat) : Int) := by rw [wrapI (by omega) (by omega)]; omega
  refine aw_absE 66 [cells82 N []] [[] ++ (List.replicate N [ST []]).flatten] ((cfgX z).heap 72) [(0, ST s), (1, ST [47]), (2, I64 0), (3, I64 (N - 1 : Nat)), (9, .hs 0 0 N N 1), (10, I64 0)]
    [(0, ST s), (1, ST [47]), (2, I64 0), (3, I64 (IntKind.i64.wrap ((N : Nat) - 1 : Int))), (9, .hs 0 0 N N 1), (10, I64 0)] (by rw [hw3]) (by simp [cells82]) (by kernel_rfl) (fun t2 c2 al2 => ?_)
  refine aw_sforJ (N - 1) (fun i F => ∃ ws s', Is 66 [cells82 N ws] ((cfgX z).heap 72) [(0, ST s'), (1, ST [47]), (2, I64 0), (3, I64 (N - 1 : Nat)), (9, .hs 0 0 N N 1), (10, I64 (i : Nat))] F ∧ ws.length = i ∧ ws ++ spl s' = spl s ∧ s'.count 47 + i = N - 1 ∧ s'.length ≤ s.length)
    (fun F => ∃ ws s', Is 66 [cells82 N ws] ((cfgX z).heap 72) [(0, ST s'), (9, .hs 0 0 N N 1), (10, I64 (ws.length : Nat))] F ∧ ws.length < N ∧ ws ++ [s'] = spl s) ?_ ?_ ?_ ?_
  · exact ⟨[], s, is_of (by kernel_rfl), rfl, by simp, by rw [← hN]; rfl, Nat.le_refl _⟩
  · rintro i F hi ⟨ws, s', ⟨t, c, al, rfl⟩, hwl, hspl, hcnt, hslen⟩
    refine aw_assoc (aw_sk 10 (by kernel_rfl) ?_)
    refine aw_sc (decide ((i : Int) < ((N - 1 : Nat) : Int))) (by kernel_rfl) (fun _ => ?_) (fun h => absurd (of_decide_eq_false h) (by omega))
    obtain ⟨m, hm, hmr⟩ := index81 s'
    obtain ⟨hi1, hi2⟩ := spl_idx s'
    rw [← hmr] at hi1 hi2
    have hlt := indexByte_lt s' 47
    rw [← hmr] at hlt
    refine aw_sskip (aw_block (aw_sr (ow_k 2 10 (by kernel_rfl) ?_)))
    refine ow_callG (k := 76) (first := []) (captured := []) (xs := [ST s', ST [47]]) (r := I64 m) (by kernel_rfl) (by kernel_rfl) (by kernel_rfl) (by kernel_rfl) (by kernel_rfl) (by kernel_rfl) hm (by kernel_rfl) (by kernel_rfl) ?_
    refine ow_all 10 (by kernel_rfl) ?_
    refine aw_assoc (aw_sk 10 (by kernel_rfl) ?_)
    refine aw_sc (decide (m < 0)) (by kernel_rfl) (fun h => ?_) (fun h => ?_)
    · refine aw_sexit ?_
      refine ⟨rfl, ws, s', is_at (l' := [(0, ST s'), (9, .hs 0 0 N N 1), (10, I64 (i : Nat))]) (by rw [hwl]) (by kernel_rfl), by omega, ?_⟩
      rw [← (hi1 (of_decide_eq_true h)).1]
      exact hspl
    have hm0 : 0 ≤ m := by have := of_decide_eq_false h; omega
    have hm1 : m < s'.length := by rcases hlt with h | h <;> omega
    obtain ⟨hd1, hd2⟩ := hi2 hm0
    have hsl : s'.length ≤ 1000000 := by omega
    have hwm : IntKind.i64.wrap (m + 0) = m := by rw [wrapI (by omega) (by omega)]; omega
    have hwm1 : IntKind.i64.wrap (m + 1) = m + 1 := wrapI (by omega) (by omega)
    refine aw_sskip (aw_sr (ow_k 6 10 (by kernel_rfl) ?_))
    refine ow_stre (bs := s') (l := 0) (u := IntKind.i64.wrap (m + 0)) (s'.take m.toNat) (by rw [hwm]; simp) (by omega) (by omega) (by omega) (by kernel_rfl) (by kernel_rfl) (by kernel_rfl) (by kernel_rfl) (by kernel_rfl) (by kernel_rfl) ?_
    refine ow_hat (l := 0) (off := 0) (len := N) (cap := N) (sz := 1) (n := (i : Int)) (e := 9) (by omega) (by omega) (by kernel_rfl) (by kernel_rfl) (by kernel_rfl) (by kernel_rfl) (by kernel_rfl) (by kernel_rfl) ?_
    refine ow_hst (l := 0) (off := 0 + (i : Int).toNat * 1) (row := cells82 N ws) (v := ST (s'.take m.toNat)) (by rw [cells_len N ws (by omega)]; simp [AV.cells]; omega) (by kernel_rfl) (by kernel_rfl) (by kernel_rfl) (by kernel_rfl) (by kernel_rfl) (by kernel_rfl) ?_
    refine ow_nil ?_
    refine aw_absE 66 [cells82 N (ws ++ [s'.take m.toNat])] [splice (cells82 N ws) (0 + (i : Int).toNat * 1) [ST (s'.take m.toNat)]] ((cfgX z).heap 72) [(0, ST s'), (1, ST [47]), (2, I64 0), (3, I64 (N - 1 : Nat)), (9, .hs 0 0 N N 1), (10, I64 (i : Nat)), (11, I64 m)] _ rfl (by
      rw [← cells_set N ws _ (by omega), hwl]; simp) (by kernel_rfl) (fun t3 c3 al3 => ?_)
    refine aw_sr (ow_k 5 10 (by kernel_rfl) ?_)
    refine ow_stre (bs := s') (l := IntKind.i64.wrap (m + 1)) (u := (s'.length : Int)) (s'.drop (m.toNat + 1)) (by rw [hwm1, show (m + 1).toNat = m.toNat + 1 by omega]; exact List.take_of_length_le (by rw [List.length_drop]; omega)) (by omega) (by omega) (by omega) (by kernel_rfl) (by kernel_rfl) (by kernel_rfl) (by kernel_rfl) (by kernel_rfl) (by kernel_rfl) ?_
    refine ow_all 10 (by kernel_rfl) ?_
    refine aw_rk 10 (by kernel_rfl) ?_
    refine ⟨ws ++ [s'.take m.toNat], s'.drop (m.toNat + 1), is_at (l' := [(0, ST (s'.drop (m.toNat + 1))), (1, ST [47]), (2, I64 0), (3, I64 (N - 1 : Nat)), (9, .hs 0 0 N N 1), (10, I64 (IntKind.i64.wrap ((i : Int) + 1)))]) (by rw [succ64 (by omega)]) (by kernel_rfl), by simp [hwl], ?_, ?_, ?_⟩
    · rw [List.append_assoc, List.singleton_append, ← hd1]; exact hspl
    · omega
    · rw [List.length_drop]; omega
  · rintro F ⟨ws, s', ⟨t, c, al, rfl⟩, hwl, hspl, hcnt, hslen⟩
    have hz : spl s' = [s'] := by
      obtain ⟨hi1, hi2⟩ := spl_idx s'
      by_cases hm : Lib.indexByte s' 47 < 0
      · exact (hi1 hm).1
      · have := (hi2 (by omega)).2
        omega
    rw [hz] at hspl
    refine aw_assoc (aw_sk 10 (by kernel_rfl) ?_)
    refine aw_sc (decide (((N - 1 : Nat) : Int) < ((N - 1 : Nat) : Int))) (by kernel_rfl) (fun h => absurd (of_decide_eq_true h) (by omega)) (fun _ => ?_)
    refine aw_sexit ?_
    exact ⟨rfl, ws, s', is_at (l' := [(0, ST s'), (9, .hs 0 0 N N 1), (10, I64 (N - 1 : Nat))]) (by rw [hwl]) (by kernel_rfl), by omega, hspl⟩
  · rintro F ⟨ws, s', ⟨t, c, al, rfl⟩, hwl, hsum⟩
    have hw5 : IntKind.i64.wrap ((ws.length : Nat) + 1 : Int) = ((ws.length + 1 : Nat) : Int) := succ64 (by omega)
    refine aw_sr (ow_k 3 10 (by kernel_rfl) ?_)
    refine ow_hat (l := 0) (off := 0) (len := N) (cap := N) (sz := 1) (n := (ws.length : Int)) (e := 9) (by omega) (by omega) (by kernel_rfl) (by kernel_rfl) (by kernel_rfl) (by kernel_rfl) (by kernel_rfl) (by kernel_rfl) ?_
    refine ow_hst (l := 0) (off := 0 + (ws.length : Int).toNat * 1) (row := cells82 N ws) (v := ST s') (by rw [cells_len N ws (by omega)]; simp [AV.cells]; omega) (by kernel_rfl) (by kernel_rfl) (by kernel_rfl) (by kernel_rfl) (by kernel_rfl) (by kernel_rfl) ?_
    refine ow_nil ?_
    refine aw_absE 66 [cells82 N (ws ++ [s'])] [splice (cells82 N ws) (0 + (ws.length : Int).toNat * 1) [ST s']] ((cfgX z).heap 72) [(9, .hs 0 0 N N 1), (10, I64 (ws.length : Nat))] _ rfl (by
      rw [← cells_set N ws _ (by omega)]; simp) (by kernel_rfl) (fun t3 c3 al3 => ?_)
    refine aw_sr (ow_k 3 10 (by kernel_rfl) ?_)
    refine ow_hsl (loc := 0) (off := 0) (len := N) (cap := N) (sz := 1) (l := 0) (u := IntKind.i64.wrap ((ws.length : Nat) + 1 : Int)) (e := 9) (by omega) (by omega) (by omega) (by omega) (by omega) (by kernel_rfl) (by kernel_rfl) (by kernel_rfl) (by kernel_rfl) (by kernel_rfl) (by kernel_rfl) (by kernel_rfl) ?_
    refine ow_all 10 (by kernel_rfl) ?_
    refine aw_ret ?_
    refine ⟨.inr rfl, [.hs 0 (0 + (0 : Int).toNat * 1) ((IntKind.i64.wrap ((ws.length : Nat) + 1 : Int)).toNat - (0 : Int).toNat) (N - (0 : Int).toNat) 1], [.slice ((ws ++ [s']).map rowS) false .no], by kernel_rfl, ?_, ?_, ?_⟩
    · refine Eq.trans (congrArg (fun H => freezeA H _) (show _ = [cells82 N (ws ++ [s'])] by kernel_rfl)) ?_
      have hlen : (cells82 N (ws ++ [s'])).length = N := cells_len N _ (by simp; omega)
      rw [hw5]
      simp only [freezeA, freeze1A, Int.toNat_zero, Nat.zero_mul, Nat.add_zero, Nat.sub_zero, Int.toNat_natCast, List.getElem?_cons_zero, Option.bind_some]
      rw [if_neg (by omega)]
      simp only [rowsOf, hlen, Nat.zero_add, Nat.mul_one]
      rw [if_pos (by omega)]
      simp only [Option.map_some, Option.bind_some]
      congr 2
      apply congrArg (fun x => AV.slice x false Own.no)
      apply List.ext_getElem
      · simp
      · intro k h1 h2
        simp at h1
        have hk : k < (cells82 N (ws ++ [s'])).length := by omega
        have hg : (cells82 N (ws ++ [s']))[k] = ST ((ws ++ [s'])[k]'(by simp; omega)) := by
          simp only [cells82]
          rw [List.getElem_append_left (by simp; omega), List.getElem_map]
        simp only [List.getElem_map, List.getElem_range, rowS]
        rw [List.drop_eq_getElem_cons hk]
        simp [hg]
    · simp [AV.free, nohp, rowS]
    · refine ⟨ws ++ [s'], hsum, ?_⟩
      rfl
theorem split69 (s : BS) (hs : s.length ≤ 1000000) : ∃ ws : List BS, ws = spl s ∧ callQ (cfgX z) (evK (cfgX z)) 69 [ST s, ST [47]] = some (.slice (ws.map rowS) false .no) := by
  obtain ⟨ws, h1, h3⟩ := split72 s hs
  refine ⟨ws, h1, callQ_of (by kernel_rfl) ?_⟩
  replace h3 := callQ_of (show (cfgX z).ext 72 = none by kernel_rfl) h3
  refine evK_of Tryd.func69 rfl (of_decide_eq_true (by kernel_rfl)) (by kernel_rfl) (by kernel_rfl) rfl ?_
  unfold Tryd.f69
  dsimp only
  refine aw_sk 10 (by kernel_rfl) ?_
  refine aw_sr (ow_k 2 10 (by kernel_rfl) ?_)
  refine ow_callG (k := 72) (first := []) (captured := []) (xs := [ST s, ST [47], I64 0, I64 (-1)]) (r := .slice (ws.map rowS) false .no) (by kernel_rfl) (by kernel_rfl) (by kernel_rfl) (by kernel_rfl) (by kernel_rfl) (by kernel_rfl) h3 (by kernel_rfl) (by kernel_rfl) ?_
  refine ow_all 10 (by kernel_rfl) ?_
  refine aw_ret ?_
  exact ⟨.inr rfl, [.slice (ws.map rowS) false .no], by kernel_rfl, by kernel_rfl, by kernel_rfl, by kernel_rfl⟩
end Go.Proofs.V.R9
namespace Go.Proofs.V.R9
open Go Go.Proofs Go.Proofs.V.E
set_option linter.unusedVariables false
set_option linter.unusedSimpArgs false
set_option maxRecDepth 100000
variable {z : Option (List AV → Option AV)}
abbrev nilS : AV := .slice [] true .full
def cloneA (rows : List (List AV)) (nl : Bool) : AV := if nl then nilS else if rows.isEmpty then .slice [] false .full else .slice rows false .fresh
set_option maxRecDepth 100000 in
theorem clone39 (rows : List (List AV)) (nl : Bool) (own : Own) (hall : ∀ r ∈ rows, r.length = 5) (hlen : rows.length * 56 ≤ 35184372088832) (hnl : nl = true → rows = []) : evK (cfgX z) 39 [.slice rows nl own] [] = some (cloneA rows nl, []) := by
  refine evK_of Tryd.func39 rfl (of_decide_eq_true (by kernel_rfl)) (by kernel_rfl) (by kernel_rfl) rfl ?_
  unfold Tryd.f39
  dsimp only
  refine aw_seq (aw_region (ow_all 10 (by kernel_rfl) ?_))
  dsimp only [Then]
  cases nl with
  | true =>
    obtain rfl := hnl rfl
    refine aw_seq (aw_seq (aw_region (ow_all 10 (by kernel_rfl) ?_)))
    dsimp only [Then]
    refine (aw_cond (t := true) (by kernel_rfl) (fun _ => ?_) (fun h => by cases h))
    refine aw_seq (aw_region (ow_all 10 (by kernel_rfl) ?_))
    dsimp only [Then]
    refine aw_ret ?_
    dsimp only [Then]
    exact ⟨.inr rfl, [nilS], by kernel_rfl, by kernel_rfl, by kernel_rfl, by kernel_rfl⟩
  | false =>
    cases rows with
    | nil =>
      refine aw_seq (aw_seq (aw_region (ow_all 10 (by kernel_rfl) ?_)))
      dsimp only [Then]
      refine (aw_cond (t := false) (by kernel_rfl) (fun h => by cases h) (fun _ => ?_))
      refine aw_skip ?_
      dsimp only [Then]
      refine aw_seq (aw_region (ow_all 10 (by kernel_rfl) ?_))
      dsimp only [Then]
      refine aw_ret ?_
      exact ⟨.inr rfl, [.slice [] false .full], by kernel_rfl, by kernel_rfl, by kernel_rfl, by kernel_rfl⟩
    | cons r rs =>
      refine aw_seq (aw_seq (aw_region (ow_all 10 (by kernel_rfl) ?_)))
      dsimp only [Then]
      refine (aw_cond (t := false) (by kernel_rfl) (fun h => by cases h) (fun _ => ?_))
      refine aw_skip ?_
      dsimp only [Then]
      refine aw_seq (aw_region ?_)
      refine ow_run (l := [_, _]) 10 (by kernel_rfl) ?_
      refine ow_appendG (ty := 22) (S := .slice [] false .full) (X := .slice (r :: rs) false own) (by kernel_rfl) (by kernel_rfl) (by kernel_rfl) (by kernel_rfl) (append_full (rows := []) (ys := r :: rs) (e := 37) (sz := 5) (by_ := 56) (z := [ST [], BO false, ST [], I64 0, I64 0]) (by kernel_rfl) (by kernel_rfl) (by kernel_rfl) (by kernel_rfl) (by simp) hall (by decide) (by simpa using hlen) (by simp at hlen ⊢; omega) (by decide) (by kernel_rfl) rfl (by simp)) (by kernel_rfl) ?_
      refine ow_all 10 (by kernel_rfl) ?_
      dsimp only [Then]
      refine aw_ret ?_
      exact ⟨.inr rfl, [.slice (r :: rs) false (.id 320)], by kernel_rfl, by kernel_rfl, by kernel_rfl, by kernel_rfl⟩
end Go.Proofs.V.R9
