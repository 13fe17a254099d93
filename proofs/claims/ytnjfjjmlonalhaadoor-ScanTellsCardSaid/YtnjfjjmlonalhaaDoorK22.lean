/- The seat of chapter 09: what lies outside of the evaluator; strings.Split. -/
import Derived.Test.YtnjfjjmlonalhaaDoorProg
import Derived.Test.YtnjfjjmlonalhaaDoorK20
import Derived.Test.YtnjfjjmlonalhaaDoorK17
import Derived.KernelRfl
import Derived.Test.YtnjfjjmlonalhaaDoorK21
namespace Go.Proofs.V.R9
open Go Go.Proofs Go.Proofs.V.E
set_option linter.unusedVariables false
set_option linter.unusedSimpArgs false
set_option maxRecDepth 100000
set_option maxHeartbeats 1000000
def ext09 (f : Nat) : Option (List AV → Option AV) := if f = 80 then some extCount else if f = 82 then some extIndex else none
def heap09 (f t : Nat) : Bool := (f == 72 && t == 27) || (f == 31 && (t == 22 || t == 23))
noncomputable def cfgX (z : Option (List AV → Option AV)) : Cfg := { P := Tryd.prog, ext := fun f => if f = 12 then z else ext09 f, eff := fun f => f == 31, bad := [], heap := heap09, frz := fun f => f == 72 }
variable {z : Option (List AV → Option AV)}
theorem mixed : (cfgX z).P.follows .mixedOrders = true := by kernel_rfl
theorem ext_ok (hz : ∀ s xs r, z = some s → s xs = some r → CSound Tryd.prog 12 xs [] r []) : ∀ g s xs r, (cfgX z).ext g = some s → s xs = some r → CSound (cfgX z).P g xs [] r [] := by
  intro g s xs r hg hs
  have hg : (if g = 12 then z else ext09 g) = some s := hg
  by_cases h12 : g = 12
  · subst h12
    rw [if_pos rfl] at hg
    exact hz s xs r hg hs
  rw [if_neg h12] at hg
  have hg : ext09 g = some s := hg
  unfold ext09 at hg
  split at hg
  · rename_i h; subst h
    cases hg
    exact extCount_sound (P := Tryd.prog) Tryd.func80 (by kernel_rfl) (by kernel_rfl) (by kernel_rfl) (by kernel_rfl) hs
  · split at hg
    · rename_i h; subst h
      cases hg
      exact extIndex_sound (P := Tryd.prog) Tryd.func82 (by kernel_rfl) (by kernel_rfl) (by kernel_rfl) (by kernel_rfl) hs
    · cases hg
theorem index81 (s : BS) : ∃ m : Int, callQ (cfgX z) (evK (cfgX z)) 76 [ST s, ST [47]] = some (I64 m) ∧ m = Lib.indexByte s 47 := by
  have key : ∃ m : Int, callQ (cfgX z) (evK (cfgX z)) 81 [ST s, ST [47]] = some (I64 m) ∧ m = Lib.indexByte s 47 := by
    suffices h : ∃ r H', evK (cfgX z) 81 [ST s, ST [47]] [] = some (r, H') ∧ (∃ m : Int, r = I64 m ∧ m = Lib.indexByte s 47) ∧ H' = [] by
      obtain ⟨r, H', h, ⟨b, rfl, hb⟩, rfl⟩ := h
      exact ⟨b, callQ_of (by kernel_rfl) h, hb⟩
    refine evK_ofE (P := fun r H' => (∃ m : Int, r = I64 m ∧ m = Lib.indexByte s 47) ∧ H' = []) Tryd.func81 rfl (of_decide_eq_true (by kernel_rfl)) (by kernel_rfl) (by kernel_rfl) rfl ?_
    unfold Tryd.f81
    dsimp only
    refine aw_sk 10 (by kernel_rfl) ?_
    refine aw_sk 10 (by kernel_rfl) ?_
    refine aw_seq (aw_block (aw_sk 10 (by kernel_rfl) ?_))
    refine aw_cond (t := ((⟨⟨[47]⟩⟩ : ByteArray).toList == (⟨⟨s⟩⟩ : ByteArray).toList)) (by kernel_rfl) (fun h => ?_) (fun _ => ?_)
    · have hs : s = [47] := by
        have := neS (a := [47]) (b := s)
        rw [h] at this
        exact (by simpa using this.symm : [47] = s).symm
      refine aw_sk 10 (by kernel_rfl) ?_
      refine aw_ret ?_
      exact ⟨.inr rfl, [I64 0], by kernel_rfl, by kernel_rfl, ⟨0, by kernel_rfl, by rw [hs]; decide⟩, by kernel_rfl⟩
    · refine aw_sk 10 (by kernel_rfl) ?_
      refine aw_cond (t := true) (by kernel_rfl) (fun _ => ?_) (fun h => by cases h)
      refine aw_sk 40 (by kernel_rfl) ?_
      refine aw_ret ?_
      exact ⟨.inr rfl, [I64 (Lib.indexByte s 47)], by kernel_rfl, by kernel_rfl, ⟨Lib.indexByte s 47, by kernel_rfl, rfl⟩, by kernel_rfl⟩
  obtain ⟨m, h, hm⟩ := key
  refine ⟨m, callQ_of (by kernel_rfl) ?_, hm⟩
  refine evK_of Tryd.func76 rfl (of_decide_eq_true (by kernel_rfl)) (by kernel_rfl) (by kernel_rfl) rfl ?_
  unfold Tryd.f76
  dsimp only
  refine aw_sk 10 (by kernel_rfl) ?_
  refine aw_sr (ow_k 2 10 (by kernel_rfl) ?_)
  refine ow_callG (k := 81) (first := []) (captured := []) (xs := [ST s, ST [47]]) (r := I64 m) (by kernel_rfl) (by kernel_rfl) (by kernel_rfl) (by kernel_rfl) (by kernel_rfl) (by kernel_rfl) h (by kernel_rfl) (by kernel_rfl) ?_
  refine ow_all 10 (by kernel_rfl) ?_
  refine aw_ret ?_
  exact ⟨.inr rfl, [I64 m], by kernel_rfl, by kernel_rfl, by kernel_rfl, by kernel_rfl⟩
set_option maxHeartbeats 2000000 in
theorem split72 (s : BS) (hs : s.length ≤ 1000000) : ∃ ws : List BS, ws = spl s ∧ evK (cfgX z) 72 [ST s, ST [47], I64 0, I64 (-1)] [] = some (.slice (ws.map rowS) false .no, []) := by
  have hcl : Lib.countByte s 47 ≤ s.length := List.count_le_length
  suffices h : ∃ r, evK (cfgX z) 72 [ST s, ST [47], I64 0, I64 (-1)] [] = some (r, []) ∧ (∃ ws : List BS, ws = spl s ∧ r = .slice (ws.map rowS) false .no) by
    obtain ⟨r, h, ws, h1, rfl⟩ := h
    exact ⟨ws, h1, h⟩
  refine evK_ofZE (P := fun r => ∃ ws : List BS, ws = spl s ∧ r = .slice (ws.map rowS) false .no) Tryd.func72 rfl (of_decide_eq_true (by kernel_rfl)) (by kernel_rfl) (by kernel_rfl) rfl ?_
  unfold Tryd.f72
  dsimp only
  refine aw_sk 10 (by kernel_rfl) ?_
  refine aw_assoc (aw_sk 10 (by kernel_rfl) ?_)
  refine aw_sc false (by kernel_rfl) (fun h => by cases h) (fun _ => ?_)
  refine aw_sskip (aw_assoc (aw_sk 10 (by kernel_rfl) ?_))
  refine aw_sc false (by kernel_rfl) (fun h => by cases h) (fun _ => ?_)
  refine aw_sskip (aw_assoc (aw_sk 10 (by kernel_rfl) ?_))
  refine aw_sc true (by kernel_rfl) (fun _ => ?_) (fun h => by cases h)
  refine aw_sk 60 (by kernel_rfl) ?_
  refine aw_sk 10 (by kernel_rfl) ?_
  have hw1 : IntKind.i64.wrap ((Lib.countByte s 47 : Nat) + 1 : Int) = ((Lib.countByte s 47 + 1 : Nat) : Int) := succ64 (by omega)
  have hw2 : IntKind.i64.wrap ((s.length : Nat) + 1 : Int) = ((s.length + 1 : Nat) : Int) := succ64 (by omega)
  refine aw_absE 66 [] [] ((cfgX z).heap 72) [(0, ST s), (1, ST [47]), (2, I64 0), (3, I64 (Lib.countByte s 47 + 1 : Nat))]
    [(0, ST s), (1, ST [47]), (2, I64 0), (3, I64 (if IntKind.i64.wrap ((s.length : Nat) + 1 : Int) < IntKind.i64.wrap ((Lib.countByte s 47 : Nat) + 1 : Int) then IntKind.i64.wrap ((s.length : Nat) + 1 : Int) else IntKind.i64.wrap ((Lib.countByte s 47 : Nat) + 1 : Int)))]
    (by rw [hw1, hw2, if_neg (by omega)]) rfl (by kernel_rfl) (fun t1 c1 al1 => ?_)
  generalize hN : Lib.countByte s 47 + 1 = N
  have hN0 : N ≠ 0 := by omega
  have hN1 : N ≤ 1000001 := by omega
  refine aw_sr (ow_k 1 10 (by kernel_rfl) ?_)
  refine ow_mk (n := N) (e := 9) (z := [ST []]) (sz := 1) (by_ := 16) hN0 (by omega) (by omega) (by kernel_rfl) (by kernel_rfl) (by kernel_rfl) (by kernel_rfl) (by kernel_rfl) (by kernel_rfl) (by kernel_rfl) (by kernel_rfl) (by kernel_rfl) (by kernel_rfl) (by kernel_rfl) ?_
  refine ow_all 10 (by kernel_rfl) ?_
  refine aw_sk 10 (by kernel_rfl) ?_
  refine aw_sk 10 (by kernel_rfl) ?_
  have hw3 : IntKind.i64.wrap ((N : Nat) - 1 : Int) = ((N - 1 : Nat) : Int) := by rw [wrapI (by omega) (by omega)]; omega
  refine aw_absE 66 [cells82 N []] [[] ++ (List.replicate N [ST []]).flatten] ((cfgX z).heap 72) [(0, ST s), (1, ST [47]), (2, I64 0), (3, I64 (N - 1 : Nat)), (9, .hs 0 0 N N 1), (10, I64 0)]
    [(0, ST s), (1, ST [47]), (2, I64 0), (3, I64 (IntKind.i64.wrap ((N : Nat) - 1 : Int))), (9, .hs 0 0 N N 1), (10, I64 0)] (by rw [hw3]) (by simp [cells82]) (by kernel_rfl) (fun t2 c2 al2 => ?_)
  refine aw_sforJ (N - 1) (fun i F => ∃ ws s', Is 66 [cells82 N ws] ((cfgX z).heap 72) [(0, ST s'), (1, ST [47]), (2, I64 0), (3, I64 (N - 1 : Nat)), (9, .hs 0 0 N N 1), (10, I64 (i : Nat))] F ∧ ws.length = i ∧ ws ++ spl s' = spl s ∧ s'.count 47 + i = N - 1 ∧ s'.length ≤ s.length)
    (fun F => ∃ ws s', Is 66 [cells82 N ws] ((cfgX z).heap 72) [(0, ST s'), (9, .hs 0 0 N N 1), (10, I64 (ws.length : Nat))] F ∧ ws.length < N ∧ ws ++ [s'] = spl s) ?_ ?_ ?_ ?_
  · exact ⟨[], s, is_of (by kernel_rfl), rfl, by simp, by rw [← hN]; rfl, Nat.le_refl _⟩
  · rintro i F hi ⟨ws, s', ⟨t, c, al, rfl⟩, hwl, hspl, hcnt, hslen⟩
    refine aw_assoc (aw_sk 10 (by kernel_rfl) ?_)
    refine aw_sc (decide ((i : Int) < ((N - 1 : Nat) : Int))) (by kernel_rfl) (fun _ => ?_) (fun h => absurd (of_decide_eq_false h) (by omega))
    obtain ⟨m, hm, hmr⟩ := index81 s'
    obtain ⟨hi1, hi2⟩ := spl_idx s'
    rw [← hmr] at hi1 hi2
    have hlt := indexByte_lt s' 47
    rw [← hmr] at hlt
    refine aw_sskip (aw_block (aw_sr (ow_k 2 10 (by kernel_rfl) ?_)))
    refine ow_callG (k := 76) (first := []) (captured := []) (xs := [ST s', ST [47]]) (r := I64 m) (by kernel_rfl) (by kernel_rfl) (by kernel_rfl) (by kernel_rfl) (by kernel_rfl) (by kernel_rfl) hm (by kernel_rfl) (by kernel_rfl) ?_
    refine ow_all 10 (by kernel_rfl) ?_
    refine aw_assoc (aw_sk 10 (by kernel_rfl) ?_)
    refine aw_sc (decide (m < 0)) (by kernel_rfl) (fun h => ?_) (fun h => ?_)
    · refine aw_sexit ?_
      refine ⟨rfl, ws, s', is_at (l' := [(0, ST s'), (9, .hs 0 0 N N 1), (10, I64 (i : Nat))]) (by rw [hwl]) (by kernel_rfl), by omega, ?_⟩
      rw [← (hi1 (of_decide_eq_true h)).1]
      exact hspl
    have hm0 : 0 ≤ m := by have := of_decide_eq_false h; omega
    have hm1 : m < s'.length := by rcases hlt with h | h <;> omega
    obtain ⟨hd1, hd2⟩ := hi2 hm0
    have hsl : s'.length ≤ 1000000 := by omega
    have hwm : IntKind.i64.wrap (m + 0) = m := by rw [wrapI (by omega) (by omega)]; omega
    have hwm1 : IntKind.i64.wrap (m + 1) = m + 1 := wrapI (by omega) (by omega)
    refine aw_sskip (aw_sr (ow_k 6 10 (by kernel_rfl) ?_))
    refine ow_stre (bs := s') (l := 0) (u := IntKind.i64.wrap (m + 0)) (s'.take m.toNat) (by rw [hwm]; simp) (by omega) (by omega) (by omega) (by kernel_rfl) (by kernel_rfl) (by kernel_rfl) (by kernel_rfl) (by kernel_rfl) (by kernel_rfl) ?_
    refine ow_hat (l := 0) (off := 0) (len := N) (cap := N) (sz := 1) (n := (i : Int)) (e := 9) (by omega) (by omega) (by kernel_rfl) (by kernel_rfl) (by kernel_rfl) (by kernel_rfl) (by kernel_rfl) (by kernel_rfl) ?_
    refine ow_hst (l := 0) (off := 0 + (i : Int).toNat * 1) (row := cells82 N ws) (v := ST (s'.take m.toNat)) (by rw [cells_len N ws (by omega)]; simp [AV.cells]; omega) (by kernel_rfl) (by kernel_rfl) (by kernel_rfl) (by kernel_rfl) (by kernel_rfl) (by kernel_rfl) ?_
    refine ow_nil ?_
    refine aw_absE 66 [cells82 N (ws ++ [s'.take m.toNat])] [splice (cells82 N ws) (0 + (i : Int).toNat * 1) [ST (s'.take m.toNat)]] ((cfgX z).heap 72) [(0, ST s'), (1, ST [47]), (2, I64 0), (3, I64 (N - 1 : Nat)), (9, .hs 0 0 N N 1), (10, I64 (i : Nat)), (11, I64 m)] _ rfl (by
      rw [← cells_set N ws _ (by omega), hwl]; simp) (by kernel_rfl) (fun t3 c3 al3 => ?_)
    refine aw_sr (ow_k 5 10 (by kernel_rfl) ?_)
    refine ow_stre (bs := s') (l := IntKind.i64.wrap (m + 1)) (u := (s'.length : Int)) (s'.drop (m.toNat + 1)) (by rw [hwm1, show (m + 1).toNat = m.toNat + 1 by omega]; exact List.take_of_length_le (by rw [List.length_drop]; omega)) (by omega) (by omega) (by omega) (by kernel_rfl) (by kernel_rfl) (by kernel_rfl) (by kernel_rfl) (by kernel_rfl) (by kernel_rfl) ?_
    refine ow_all 10 (by kernel_rfl) ?_
    refine aw_rk 10 (by kernel_rfl) ?_
    refine ⟨ws ++ [s'.take m.toNat], s'.drop (m.toNat + 1), is_at (l' := [(0, ST (s'.drop (m.toNat + 1))), (1, ST [47]), (2, I64 0), (3, I64 (N - 1 : Nat)), (9, .hs 0 0 N N 1), (10, I64 (IntKind.i64.wrap ((i : Int) + 1)))]) (by rw [succ64 (by omega)]) (by kernel_rfl), by simp [hwl], ?_, ?_, ?_⟩
    · rw [List.append_assoc, List.singleton_append, ← hd1]; exact hspl
    · omega
    · rw [List.length_drop]; omega
  · rintro F ⟨ws, s', ⟨t, c, al, rfl⟩, hwl, hspl, hcnt, hslen⟩
    have hz : spl s' = [s'] := by
      obtain ⟨hi1, hi2⟩ := spl_idx s'
      by_cases hm : Lib.indexByte s' 47 < 0
      · exact (hi1 hm).1
      · have := (hi2 (by omega)).2
        omega
    rw [hz] at hspl
    refine aw_assoc (aw_sk 10 (by kernel_rfl) ?_)
    refine aw_sc (decide (((N - 1 : Nat) : Int) < ((N - 1 : Nat) : Int))) (by kernel_rfl) (fun h => absurd (of_decide_eq_true h) (by omega)) (fun _ => ?_)
    refine aw_sexit ?_
    exact ⟨rfl, ws, s', is_at (l' := [(0, ST s'), (9, .hs 0 0 N N 1), (10, I64 (N - 1 : Nat))]) (by rw [hwl]) (by kernel_rfl), by omega, hspl⟩
  · rintro F ⟨ws, s', ⟨t, c, al, rfl⟩, hwl, hsum⟩
    have hw5 : IntKind.i64.wrap ((ws.length : Nat) + 1 : Int) = ((ws.length + 1 : Nat) : Int) := succ64 (by omega)
    refine aw_sr (ow_k 3 10 (by kernel_rfl) ?_)
    refine ow_hat (l := 0) (off := 0) (len := N) (cap := N) (sz := 1) (n := (ws.length : Int)) (e := 9) (by omega) (by omega) (by kernel_rfl) (by kernel_rfl) (by kernel_rfl) (by kernel_rfl) (by kernel_rfl) (by kernel_rfl) ?_
    refine ow_hst (l := 0) (off := 0 + (ws.length : Int).toNat * 1) (row := cells82 N ws) (v := ST s') (by rw [cells_len N ws (by omega)]; simp [AV.cells]; omega) (by kernel_rfl) (by kernel_rfl) (by kernel_rfl) (by kernel_rfl) (by kernel_rfl) (by kernel_rfl) ?_
    refine ow_nil ?_
    refine aw_absE 66 [cells82 N (ws ++ [s'])] [splice (cells82 N ws) (0 + (ws.length : Int).toNat * 1) [ST s']] ((cfgX z).heap 72) [(9, .hs 0 0 N N 1), (10, I64 (ws.length : Nat))] _ rfl (by
      rw [← cells_set N ws _ (by omega)]; simp) (by kernel_rfl) (fun t3 c3 al3 => ?_)
    refine aw_sr (ow_k 3 10 (by kernel_rfl) ?_)
    refine ow_hsl (loc := 0) (off := 0) (len := N) (cap := N) (sz := 1) (l := 0) (u := IntKind.i64.wrap ((ws.length : Nat) + 1 : Int)) (e := 9) (by omega) (by omega) (by omega) (by omega) (by omega) (by kernel_rfl) (by kernel_rfl) (by kernel_rfl) (by kernel_rfl) (by kernel_rfl) (by kernel_rfl) (by kernel_rfl) ?_
    refine ow_all 10 (by kernel_rfl) ?_
    refine aw_ret ?_
    refine ⟨.inr rfl, [.hs 0 (0 + (0 : Int).toNat * 1) ((IntKind.i64.wrap ((ws.length : Nat) + 1 : Int)).toNat - (0 : Int).toNat) (N - (0 : Int).toNat) 1], [.slice ((ws ++ [s']).map rowS) false .no], by kernel_rfl, ?_, ?_, ?_⟩
    · refine Eq.trans (congrArg (fun H => freezeA H _) (show _ = [cells82 N (ws ++ [s'])] by kernel_rfl)) ?_
      have hlen : (cells82 N (ws ++ [s'])).length = N := cells_len N _ (by simp; omega)
      rw [hw5]
      simp only [freezeA, freeze1A, Int.toNat_zero, Nat.zero_mul, Nat.add_zero, Nat.sub_zero, Int.toNat_natCast, List.getElem?_cons_zero, Option.bind_some]
      rw [if_neg (by omega)]
      simp only [rowsOf, hlen, Nat.zero_add, Nat.mul_one]
      rw [if_pos (by omega)]
      simp only [Option.map_some, Option.bind_some]
      congr 2
      apply congrArg (fun x => AV.slice x false Own.no)
      apply List.ext_getElem
      · simp
      · intro k h1 h2
        simp at h1
        have hk : k < (cells82 N (ws ++ [s'])).length := by omega
        have hg : (cells82 N (ws ++ [s']))[k] = ST ((ws ++ [s'])[k]'(by simp; omega)) := by
          simp only [cells82]
          rw [List.getElem_append_left (by simp; omega), List.getElem_map]
        simp only [List.getElem_map, List.getElem_range, rowS]
        rw [List.drop_eq_getElem_cons hk]
        simp [hg]
    · simp [AV.free, nohp, rowS]
    · refine ⟨ws ++ [s'], hsum, ?_⟩
      rfl
theorem split69 (s : BS) (hs : s.length ≤ 1000000) : ∃ ws : List BS, ws = spl s ∧ callQ (cfgX z) (evK (cfgX z)) 69 [ST s, ST [47]] = some (.slice (ws.map rowS) false .no) := by
  obtain ⟨ws, h1, h3⟩ := split72 s hs
  refine ⟨ws, h1, callQ_of (by kernel_rfl) ?_⟩
  replace h3 := callQ_of (show (cfgX z).ext 72 = none by kernel_rfl) h3
  refine evK_of Tryd.func69 rfl (of_decide_eq_true (by kernel_rfl)) (by kernel_rfl) (by kernel_rfl) rfl ?_
  unfold Tryd.f69
  dsimp only
  refine aw_sk 10 (by kernel_rfl) ?_
  refine aw_sr (ow_k 2 10 (by kernel_rfl) ?_)
  refine ow_callG (k := 72) (first := []) (captured := []) (xs := [ST s, ST [47], I64 0, I64 (-1)]) (r := .slice (ws.map rowS) false .no) (by kernel_rfl) (by kernel_rfl) (by kernel_rfl) (by kernel_rfl) (by kernel_rfl) (by kernel_rfl) h3 (by kernel_rfl) (by kernel_rfl) ?_
  refine ow_all 10 (by kernel_rfl) ?_
  refine aw_ret ?_
  exact ⟨.inr rfl, [.slice (ws.map rowS) false .no], by kernel_rfl, by kernel_rfl, by kernel_rfl, by kernel_rfl⟩
end Go.Proofs.V.R9
namespace Go.Proofs.V.R9
open Go Go.Proofs Go.Proofs.V.E
set_option linter.unusedVariables false
set_option linter.unusedSimpArgs false
set_option maxRecDepth 100000
variable {z : Option (List AV → Option AV)}
abbrev nilS : AV := .slice [] true .full
def cloneA (rows : List (List AV)) (nl : Bool) : AV := if nl then nilS else if rows.isEmpty then .slice [] false .full else .slice rows false .fresh
set_option maxRecDepth 100000 in
theorem clone39 (rows : List (List AV)) (nl : Bool) (own : Own) (hall : ∀ r ∈ rows, r.length = 5) (hlen : rows.length * 56 ≤ 35184372088832) (hnl : nl = true → rows = []) : evK (cfgX z) 39 [.slice rows nl own] [] = some (cloneA rows nl, []) := by
  refine evK_of Tryd.func39 rfl (of_decide_eq_true (by kernel_rfl)) (by kernel_rfl) (by kernel_rfl) rfl ?_
  unfold Tryd.f39
  dsimp only
  refine aw_seq (aw_region (ow_all 10 (by kernel_rfl) ?_))
  dsimp only [Then]
  cases nl with
  | true =>
    obtain rfl := hnl rfl
    refine aw_seq (aw_seq (aw_region (ow_all 10 (by kernel_rfl) ?_)))
    dsimp only [Then]
    refine (aw_cond (t := true) (by kernel_rfl) (fun _ => ?_) (fun h => by cases h))
    refine aw_seq (aw_region (ow_all 10 (by kernel_rfl) ?_))
    dsimp only [Then]
    refine aw_ret ?_
    dsimp only [Then]
    exact ⟨.inr rfl, [nilS], by kernel_rfl, by kernel_rfl, by kernel_rfl, by kernel_rfl⟩
  | false =>
    cases rows with
    | nil =>
      refine aw_seq (aw_seq (aw_region (ow_all 10 (by kernel_rfl) ?_)))
      dsimp only [Then]
      refine (aw_cond (t := false) (by kernel_rfl) (fun h => by cases h) (fun _ => ?_))
      refine aw_skip ?_
      dsimp only [Then]
      refine aw_seq (aw_region (ow_all 10 (by kernel_rfl) ?_))
      dsimp only [Then]
      refine aw_ret ?_
      exact ⟨.inr rfl, [.slice [] false .full], by kernel_rfl, by kernel_rfl, by kernel_rfl, by kernel_rfl⟩
    | cons r rs =>
      refine aw_seq (aw_seq (aw_region (ow_all 10 (by kernel_rfl) ?_)))
      dsimp only [Then]
      refine (aw_cond (t := false) (by kernel_rfl) (fun h => by cases h) (fun _ => ?_))
      refine aw_skip ?_
      dsimp only [Then]
      refine aw_seq (aw_region ?_)
      refine ow_run (l := [_, _]) 10 (by kernel_rfl) ?_
      refine ow_appendG (ty := 22) (S := .slice [] false .full) (X := .slice (r :: rs) false own) (by kernel_rfl) (by kernel_rfl) (by kernel_rfl) (by kernel_rfl) (append_full (rows := []) (ys := r :: rs) (e := 37) (sz := 5) (by_ := 56) (z := [ST [], BO false, ST [], I64 0, I64 0]) (by kernel_rfl) (by kernel_rfl) (by kernel_rfl) (by kernel_rfl) (by simp) hall (by decide) (by simpa using hlen) (by simp at hlen ⊢; omega) (by decide) (by kernel_rfl) rfl (by simp)) (by kernel_rfl) ?_
      refine ow_all 10 (by kernel_rfl) ?_
      dsimp only [Then]
      refine aw_ret ?_
      exact ⟨.inr rfl, [.slice (r :: rs) false (.id 320)], by kernel_rfl, by kernel_rfl, by kernel_rfl, by kernel_rfl⟩
end Go.Proofs.V.R9
namespace Go.Proofs.W.Q9
open Go Go.Proofs Go.Proofs.V Go.Proofs.V.R9
set_option linter.unusedVariables false
set_option linter.unusedSimpArgs false
set_option maxRecDepth 100000
variable {z : Option (List AV → Option AV)}
theorem nilT {cfg : Cfg} : ∀ e ∈ ([] : List Ent), FSound cfg e := fun e h => by cases h
theorem consT {cfg : Cfg} {e : Ent} {l : List Ent} (h : FSound cfg e) (k : ∀ e ∈ l, FSound cfg e) : ∀ e' ∈ e :: l, FSound cfg e' := fun e' he => by
  rcases List.mem_cons.1 he with rfl | he
  · exact h
  · exact k e' he
theorem args2 {c1 c2 : CT} {x : Tc c1 × Tc c2} {xs : List AV} (h : ArgR [.c c1, .c c2] x xs) : ∃ a1 a2, xs = [a1, a2] ∧ WR Ono g0 (cellW c1 x.1) a1 ∧ WR Ono g0 (cellW c2 x.2) a2 := by
  obtain ⟨ws, hf, hw⟩ := h
  cases hf
  rcases xs with _ | ⟨a1, _ | ⟨a2, _ | ⟨_, _⟩⟩⟩ <;> first | exact hw.elim | exact hw.2.elim | exact hw.2.2.elim | skip
  exact ⟨a1, a2, rfl, hw.1, hw.2.1⟩
theorem s_bytealg_IndexByteString : FSound (cfgX z) ⟨⟨82, [.c .str, .c (.int .u8)], [.c (.int .i64)]⟩, bytealg_IndexByteString⟩ := by
  rintro ⟨s, c⟩ y hxy xs ha
  have hxy : bytealg_IndexByteString (s, c) = some y := hxy
  obtain ⟨a1, a2, rfl, h1, h2⟩ := args2 (c1 := .str) (c2 := .int .u8) ha
  cases h1
  cases h2
  unfold bytealg_IndexByteString at hxy
  split at hxy
  · cases hxy
    exact ⟨I64 _, rfl, [.int .i64 false _], [I64 _], rfl, rfl, ⟨.int _ _ _, fun e => by cases e⟩, trivial⟩
  · cases hxy
theorem rows_of : ∀ ws : List (List UInt8), All2 (rowR (.one .str)) ws (ws.map E.rowS)
  | [] => trivial
  | w :: ws => ⟨⟨_, rfl, rfl⟩, rows_of ws⟩
theorem s_strings_Split : FSound (cfgX z) ⟨⟨69, [.c .str, .c .str], [.c (.sl (.one .str))]⟩, strings_Split⟩ := by
  rintro ⟨s, c⟩ y hxy xs ha
  have hxy : strings_Split (s, c) = some y := hxy
  obtain ⟨a1, a2, rfl, h1, h2⟩ := args2 (c1 := .str) (c2 := .str) ha
  cases h1
  cases h2
  unfold strings_Split at hxy
  split at hxy
  · rename_i hc
    obtain ⟨hc, hl⟩ := hc
    have hc : c = [47] := hc
    subst hc
    cases hxy
    obtain ⟨ws, rfl, h⟩ := split69 (z := z) s hl
    exact ⟨_, h, [.sl (.one .str) (E.spl s) .no], [.slice ((E.spl s).map E.rowS) false .no], rfl, rfl, ⟨.sl _ _ _ _ _ _ ⟨rows_of _, fun e => by cases e⟩ rfl (fun _ e => by cases e), fun e => by cases e⟩, trivial⟩
  · cases hxy
theorem s_slices_Clone_Entry : FSound (cfgX z) ⟨⟨39, [.c (.sl (.cons .str (.cons .bool (.cons .str (.cons (.int .i64) (.one (.int .i64)))))))], [.fr (.cons .str (.cons .bool (.cons .str (.cons (.int .i64) (.one (.int .i64))))))]⟩, slices_Clone_Entry⟩ := by
  intro x y hxy xs ha
  have hxy : slices_Clone_Entry x = some y := hxy
  obtain ⟨ws, hf, hw⟩ := ha
  cases hf
  rcases xs with _ | ⟨a, _ | ⟨b, xs⟩⟩ <;> first | exact hw.elim | exact hw.2.elim | skip
  obtain ⟨h1, _⟩ := hw
  cases h1 with
  | sl _ _ _ rows nl own h ho =>
    unfold slices_Clone_Entry at hxy
    split at hxy
    · rename_i hlen
      cases hxy
      have hall : ∀ r ∈ rows, r.length = 5 := fun r hr => by rw [rows_len h.1 r hr]; rfl
      have hev := clone39 (z := z) rows nl own hall (by rw [← h.1.len]; exact hlen) h.2
      refine ⟨cloneA rows nl, callQ_of rfl hev, [.sl reE x .no], [cloneA rows nl], rfl, rfl, ⟨?_, fun _ => ?_⟩, trivial⟩
      · unfold cloneA
        split
        · rename_i hn
          have e := h.2 hn
          subst e
          exact .sl _ _ _ _ _ _ ⟨h.1, fun _ => rfl⟩ rfl (fun _ e => by cases e)
        · split
          · rename_i he
            have e : rows = [] := by simpa using he
            subst e
            exact .sl _ _ _ _ _ _ ⟨h.1, fun _ => rfl⟩ rfl (fun _ e => by cases e)
          · exact .sl _ _ _ _ _ _ ⟨h.1, fun e => by cases e⟩ rfl (fun _ e => by cases e)
      · unfold cloneA
        split
        · exact ⟨_, _, _, rfl, .inl ⟨rfl, rfl⟩⟩
        · split
          · exact ⟨_, _, _, rfl, .inl ⟨rfl, rfl⟩⟩
          · exact ⟨_, _, _, rfl, .inr rfl⟩
    · cases hxy

theorem s_stringslite_IndexByte : FSound (cfgX z) ⟨⟨77, [.c .str, .c (.int .u8)], [.c (.int .i64)]⟩, stringslite_IndexByte⟩ :=
  w_sound (W := ⟨real, Tryd.prog, fun g => g == 31, dsOf (cfgX z), [⟨⟨82, [.c .str, .c (.int .u8)], [.c (.int .i64)]⟩, bytealg_IndexByteString⟩]⟩) (H := ⟨[], [], 8, []⟩) (a := [.c .str, .c (.int .u8)]) (rs := [.c (.int .i64)]) ⟨rfl, rfl, rfl, rfl, (consT s_bytealg_IndexByteString nilT)⟩ stringslite_IndexByte 80 Tryd.func77 rfl (by kernel_rfl) (by kernel_rfl) (by kernel_rfl) (by kernel_rfl) (by kernel_rfl) (by kernel_rfl) (fun t => by kernel_rfl) (fun x => by kernel_rfl)
theorem s_strings_IndexByte : FSound (cfgX z) ⟨⟨73, [.c .str, .c (.int .u8)], [.c (.int .i64)]⟩, strings_IndexByte⟩ :=
  w_sound (W := ⟨real, Tryd.prog, fun g => g == 31, dsOf (cfgX z), [⟨⟨77, [.c .str, .c (.int .u8)], [.c (.int .i64)]⟩, stringslite_IndexByte⟩]⟩) (H := ⟨[], [], 8, []⟩) (a := [.c .str, .c (.int .u8)]) (rs := [.c (.int .i64)]) ⟨rfl, rfl, rfl, rfl, (consT s_stringslite_IndexByte nilT)⟩ strings_IndexByte 80 Tryd.func73 rfl (by kernel_rfl) (by kernel_rfl) (by kernel_rfl) (by kernel_rfl) (by kernel_rfl) (by kernel_rfl) (fun t => by kernel_rfl) (fun x => by kernel_rfl)
theorem s_path_Name : FSound (cfgX z) ⟨⟨70, [.c .str], [.c .bool]⟩, path_Name⟩ :=
  w_sound (W := ⟨real, Tryd.prog, fun g => g == 31, dsOf (cfgX z), [⟨⟨73, [.c .str, .c (.int .u8)], [.c (.int .i64)]⟩, strings_IndexByte⟩]⟩) (H := ⟨[(2, [.val 9 (.c (.int .i64))], [0, 7, 8])], [], 51, []⟩) (a := [.c .str]) (rs := [.c .bool]) ⟨rfl, rfl, rfl, rfl, (consT s_strings_IndexByte nilT)⟩ path_Name 80 Tryd.func70 rfl (by kernel_rfl) (by kernel_rfl) (by kernel_rfl) (by kernel_rfl) (by kernel_rfl) (by kernel_rfl) (fun t => by kernel_rfl) (fun x => by kernel_rfl)
theorem s_path_Names : FSound (cfgX z) ⟨⟨61, [.c .str], [.c (.sl (.one .str))]⟩, path_Names⟩ :=
  w_sound (W := ⟨real, Tryd.prog, fun g => g == 31, dsOf (cfgX z), [⟨⟨69, [.c .str, .c .str], [.c (.sl (.one .str))]⟩, strings_Split⟩, ⟨⟨70, [.c .str], [.c .bool]⟩, path_Name⟩]⟩) (H := ⟨[(5, [.val 13 (.c (.int .i64))], [3, 11, 12])], [], 22, []⟩) (a := [.c .str]) (rs := [.c (.sl (.one .str))]) ⟨rfl, rfl, rfl, rfl, (consT s_strings_Split (consT s_path_Name nilT))⟩ path_Names 80 Tryd.func61 rfl (by kernel_rfl) (by kernel_rfl) (by kernel_rfl) (by kernel_rfl) (by kernel_rfl) (by kernel_rfl) (fun t => by kernel_rfl) (fun x => by kernel_rfl)
theorem s_path_Right : FSound (cfgX z) ⟨⟨40, [.c .str], [.c .bool]⟩, path_Right⟩ :=
  w_sound (W := ⟨real, Tryd.prog, fun g => g == 31, dsOf (cfgX z), [⟨⟨61, [.c .str], [.c (.sl (.one .str))]⟩, path_Names⟩]⟩) (H := ⟨[], [], 7, []⟩) (a := [.c .str]) (rs := [.c .bool]) ⟨rfl, rfl, rfl, rfl, (consT s_path_Names nilT)⟩ path_Right 80 Tryd.func40 rfl (by kernel_rfl) (by kernel_rfl) (by kernel_rfl) (by kernel_rfl) (by kernel_rfl) (by kernel_rfl) (fun t => by kernel_rfl) (fun x => by kernel_rfl)
theorem s_clock_Right : FSound (cfgX z) ⟨⟨41, [.agg [.c (.int .i64), .c (.int .i64)]], [.c .bool]⟩, clock_Right⟩ :=
  w_sound (W := ⟨real, Tryd.prog, fun g => g == 31, dsOf (cfgX z), []⟩) (H := ⟨[], [], 17, []⟩) (a := [.agg [.c (.int .i64), .c (.int .i64)]]) (rs := [.c .bool]) ⟨rfl, rfl, rfl, rfl, nilT⟩ clock_Right 80 Tryd.func41 rfl (by kernel_rfl) (by kernel_rfl) (by kernel_rfl) (by kernel_rfl) (by kernel_rfl) (by kernel_rfl) (fun t => by kernel_rfl) (fun x => by kernel_rfl)
theorem s_scan_files : FSound (cfgX z) ⟨⟨42, [.c (.sl (.cons .str (.cons .bool (.cons .str (.cons (.int .i64) (.one (.int .i64)))))))], [.fr (.cons .str (.one .str))]⟩, scan_files⟩ :=
  w_sound (W := ⟨real, Tryd.prog, fun g => g == 31, dsOf (cfgX z), []⟩) (H := ⟨[(3, [.val 3 (.fr (.cons .str (.one .str))), .val 8 (.c (.int .i64))], [6, 7])], [], 24, []⟩) (a := [.c (.sl (.cons .str (.cons .bool (.cons .str (.cons (.int .i64) (.one (.int .i64)))))))]) (rs := [.fr (.cons .str (.one .str))]) ⟨rfl, rfl, rfl, rfl, nilT⟩ scan_files 80 Tryd.func42 rfl (by kernel_rfl) (by kernel_rfl) (by kernel_rfl) (by kernel_rfl) (by kernel_rfl) (by kernel_rfl) (fun t => by kernel_rfl) (fun x => by kernel_rfl)
theorem s_stringslite_HasPrefix : FSound (cfgX z) ⟨⟨71, [.c .str, .c .str], [.c .bool]⟩, stringslite_HasPrefix⟩ :=
  w_sound (W := ⟨real, Tryd.prog, fun g => g == 31, dsOf (cfgX z), []⟩) (H := ⟨[], [], 18, []⟩) (a := [.c .str, .c .str]) (rs := [.c .bool]) ⟨rfl, rfl, rfl, rfl, nilT⟩ stringslite_HasPrefix 80 Tryd.func71 rfl (by kernel_rfl) (by kernel_rfl) (by kernel_rfl) (by kernel_rfl) (by kernel_rfl) (by kernel_rfl) (fun t => by kernel_rfl) (fun x => by kernel_rfl)
theorem s_strings_HasPrefix : FSound (cfgX z) ⟨⟨66, [.c .str, .c .str], [.c .bool]⟩, strings_HasPrefix⟩ :=
  w_sound (W := ⟨real, Tryd.prog, fun g => g == 31, dsOf (cfgX z), [⟨⟨71, [.c .str, .c .str], [.c .bool]⟩, stringslite_HasPrefix⟩]⟩) (H := ⟨[], [], 8, []⟩) (a := [.c .str, .c .str]) (rs := [.c .bool]) ⟨rfl, rfl, rfl, rfl, (consT s_stringslite_HasPrefix nilT)⟩ strings_HasPrefix 80 Tryd.func66 rfl (by kernel_rfl) (by kernel_rfl) (by kernel_rfl) (by kernel_rfl) (by kernel_rfl) (by kernel_rfl) (fun t => by kernel_rfl) (fun x => by kernel_rfl)
theorem s_path_Under : FSound (cfgX z) ⟨⟨50, [.c .str, .c .str], [.c .bool]⟩, path_Under⟩ :=
  w_sound (W := ⟨real, Tryd.prog, fun g => g == 31, dsOf (cfgX z), [⟨⟨40, [.c .str], [.c .bool]⟩, path_Right⟩, ⟨⟨66, [.c .str, .c .str], [.c .bool]⟩, strings_HasPrefix⟩]⟩) (H := ⟨[], [], 17, []⟩) (a := [.c .str, .c .str]) (rs := [.c .bool]) ⟨rfl, rfl, rfl, rfl, (consT s_path_Right (consT s_strings_HasPrefix nilT))⟩ path_Under 80 Tryd.func50 rfl (by kernel_rfl) (by kernel_rfl) (by kernel_rfl) (by kernel_rfl) (by kernel_rfl) (by kernel_rfl) (fun t => by kernel_rfl) (fun x => by kernel_rfl)
theorem s_tree_Right_1 : FSound (cfgX z) ⟨⟨49, [.agg [.c .str, .c .str], .ref [.c .str, .c .str] 0], [.c .bool]⟩, tree_Right_1⟩ :=
  w_sound (W := ⟨real, Tryd.prog, fun g => g == 31, dsOf (cfgX z), [⟨⟨50, [.c .str, .c .str], [.c .bool]⟩, path_Under⟩]⟩) (H := ⟨[], [], 9, []⟩) (a := [.agg [.c .str, .c .str], .ref [.c .str, .c .str] 0]) (rs := [.c .bool]) ⟨rfl, rfl, rfl, rfl, (consT s_path_Under nilT)⟩ tree_Right_1 80 Tryd.func49 rfl (by kernel_rfl) (by kernel_rfl) (by kernel_rfl) (by kernel_rfl) (by kernel_rfl) (by kernel_rfl) (fun t => by kernel_rfl) (fun x => by kernel_rfl)
theorem s_slices_IndexFunc_File_tree_Right_1 : FSound (cfgX z) ⟨⟨67, [.c (.sl (.cons .str (.one .str))), .fn 49 [] [.ref [.c .str, .c .str] 0]], [.c (.int .i64)]⟩, slices_IndexFunc_File_tree_Right_1⟩ :=
  w_sound (W := ⟨real, Tryd.prog, fun g => g == 31, dsOf (cfgX z), [⟨⟨49, [.agg [.c .str, .c .str], .ref [.c .str, .c .str] 0], [.c .bool]⟩, tree_Right_1⟩]⟩) (H := ⟨[(2, [.val 8 (.c (.int .i64))], [0, 1, 7])], [], 19, []⟩) (a := [.c (.sl (.cons .str (.one .str))), .fn 49 [] [.ref [.c .str, .c .str] 0]]) (rs := [.c (.int .i64)]) ⟨rfl, rfl, rfl, rfl, (consT s_tree_Right_1 nilT)⟩ slices_IndexFunc_File_tree_Right_1 80 Tryd.func67 rfl (by kernel_rfl) (by kernel_rfl) (by kernel_rfl) (by kernel_rfl) (by kernel_rfl) (by kernel_rfl) (fun t => by kernel_rfl) (fun x => by kernel_rfl)
theorem s_slices_ContainsFunc_File_tree_Right_1 : FSound (cfgX z) ⟨⟨51, [.c (.sl (.cons .str (.one .str))), .fn 49 [] [.ref [.c .str, .c .str] 0]], [.c .bool]⟩, slices_ContainsFunc_File_tree_Right_1⟩ :=
  w_sound (W := ⟨real, Tryd.prog, fun g => g == 31, dsOf (cfgX z), [⟨⟨67, [.c (.sl (.cons .str (.one .str))), .fn 49 [] [.ref [.c .str, .c .str] 0]], [.c (.int .i64)]⟩, slices_IndexFunc_File_tree_Right_1⟩]⟩) (H := ⟨[], [], 9, []⟩) (a := [.c (.sl (.cons .str (.one .str))), .fn 49 [] [.ref [.c .str, .c .str] 0]]) (rs := [.c .bool]) ⟨rfl, rfl, rfl, rfl, (consT s_slices_IndexFunc_File_tree_Right_1 nilT)⟩ slices_ContainsFunc_File_tree_Right_1 80 Tryd.func51 rfl (by kernel_rfl) (by kernel_rfl) (by kernel_rfl) (by kernel_rfl) (by kernel_rfl) (by kernel_rfl) (fun t => by kernel_rfl) (fun x => by kernel_rfl)
theorem s_tree_Right : FSound (cfgX z) ⟨⟨27, [.c (.sl (.cons .str (.one .str)))], [.c .bool]⟩, tree_Right⟩ :=
  w_sound (W := ⟨real, Tryd.prog, fun g => g == 31, dsOf (cfgX z), [⟨⟨40, [.c .str], [.c .bool]⟩, path_Right⟩, ⟨⟨51, [.c (.sl (.cons .str (.one .str))), .fn 49 [] [.ref [.c .str, .c .str] 0]], [.c .bool]⟩, slices_ContainsFunc_File_tree_Right_1⟩]⟩) (H := ⟨[(4, [.val 11 (.c (.int .i64))], [0, 9, 10])], [], 48, []⟩) (a := [.c (.sl (.cons .str (.one .str)))]) (rs := [.c .bool]) ⟨rfl, rfl, rfl, rfl, (consT s_path_Right (consT s_slices_ContainsFunc_File_tree_Right_1 nilT))⟩ tree_Right 80 Tryd.func27 rfl (by kernel_rfl) (by kernel_rfl) (by kernel_rfl) (by kernel_rfl) (by kernel_rfl) (by kernel_rfl) (fun t => by kernel_rfl) (fun x => by kernel_rfl)
theorem s_scan_Right : FSound (cfgX z) ⟨⟨17, [.c (.sl (.cons .str (.cons .bool (.cons .str (.cons (.int .i64) (.one (.int .i64)))))))], [.c .bool]⟩, scan_Right⟩ :=
  w_sound (W := ⟨real, Tryd.prog, fun g => g == 31, dsOf (cfgX z), [⟨⟨40, [.c .str], [.c .bool]⟩, path_Right⟩, ⟨⟨41, [.agg [.c (.int .i64), .c (.int .i64)]], [.c .bool]⟩, clock_Right⟩, ⟨⟨42, [.c (.sl (.cons .str (.cons .bool (.cons .str (.cons (.int .i64) (.one (.int .i64)))))))], [.fr (.cons .str (.one .str))]⟩, scan_files⟩, ⟨⟨27, [.c (.sl (.cons .str (.one .str)))], [.c .bool]⟩, tree_Right⟩]⟩) (H := ⟨[(2, [.val 7 (.c (.int .i64))], [0, 5, 6])], [], 62, []⟩) (a := [.c (.sl (.cons .str (.cons .bool (.cons .str (.cons (.int .i64) (.one (.int .i64)))))))]) (rs := [.c .bool]) ⟨rfl, rfl, rfl, rfl, (consT s_path_Right (consT s_clock_Right (consT s_scan_files (consT s_tree_Right nilT))))⟩ scan_Right 80 Tryd.func17 rfl (by kernel_rfl) (by kernel_rfl) (by kernel_rfl) (by kernel_rfl) (by kernel_rfl) (by kernel_rfl) (fun t => by kernel_rfl) (fun x => by kernel_rfl)
theorem s_clock_clamp : FSound (cfgX z) ⟨⟨48, [.c (.int .i64)], [.c (.flt .f64)]⟩, clock_clamp⟩ :=
  w_sound (W := ⟨real, Tryd.prog, fun g => g == 31, dsOf (cfgX z), []⟩) (H := ⟨[], [], 7, []⟩) (a := [.c (.int .i64)]) (rs := [.c (.flt .f64)]) ⟨rfl, rfl, rfl, rfl, nilT⟩ clock_clamp 80 Tryd.func48 rfl (by kernel_rfl) (by kernel_rfl) (by kernel_rfl) (by kernel_rfl) (by kernel_rfl) (by kernel_rfl) (fun t => by kernel_rfl) (fun x => by kernel_rfl)
theorem s_clock_Of : FSound (cfgX z) ⟨⟨26, [.agg [.c (.int .i64), .c (.int .i64)]], [.c (.cx .f64)]⟩, clock_Of⟩ :=
  w_sound (W := ⟨real, Tryd.prog, fun g => g == 31, dsOf (cfgX z), [⟨⟨48, [.c (.int .i64)], [.c (.flt .f64)]⟩, clock_clamp⟩]⟩) (H := ⟨[], [], 10, []⟩) (a := [.agg [.c (.int .i64), .c (.int .i64)]]) (rs := [.c (.cx .f64)]) ⟨rfl, rfl, rfl, rfl, (consT s_clock_clamp nilT)⟩ clock_Of 80 Tryd.func26 rfl (by kernel_rfl) (by kernel_rfl) (by kernel_rfl) (by kernel_rfl) (by kernel_rfl) (by kernel_rfl) (fun t => by kernel_rfl) (fun x => by kernel_rfl)
theorem s_clock_count : FSound (cfgX z) ⟨⟨56, [.c (.flt .f64)], [.c (.int .i64)]⟩, clock_count⟩ :=
  w_sound (W := ⟨real, Tryd.prog, fun g => g == 31, dsOf (cfgX z), []⟩) (H := ⟨[], [], 11, []⟩) (a := [.c (.flt .f64)]) (rs := [.c (.int .i64)]) ⟨rfl, rfl, rfl, rfl, nilT⟩ clock_count 80 Tryd.func56 rfl (by kernel_rfl) (by kernel_rfl) (by kernel_rfl) (by kernel_rfl) (by kernel_rfl) (by kernel_rfl) (fun t => by kernel_rfl) (fun x => by kernel_rfl)
theorem s_clock_Pair : FSound (cfgX z) ⟨⟨32, [.c (.cx .f64)], [.agg [.c (.int .i64), .c (.int .i64)]]⟩, clock_Pair⟩ :=
  w_sound (W := ⟨real, Tryd.prog, fun g => g == 31, dsOf (cfgX z), [⟨⟨56, [.c (.flt .f64)], [.c (.int .i64)]⟩, clock_count⟩]⟩) (H := ⟨[], [], 10, []⟩) (a := [.c (.cx .f64)]) (rs := [.agg [.c (.int .i64), .c (.int .i64)]]) ⟨rfl, rfl, rfl, rfl, (consT s_clock_count nilT)⟩ clock_Pair 80 Tryd.func32 rfl (by kernel_rfl) (by kernel_rfl) (by kernel_rfl) (by kernel_rfl) (by kernel_rfl) (by kernel_rfl) (fun t => by kernel_rfl) (fun x => by kernel_rfl)
theorem s_clock_whole : FSound (cfgX z) ⟨⟨53, [.c (.cx .f64)], [.c (.cx .f64)]⟩, clock_whole⟩ :=
  w_sound (W := ⟨real, Tryd.prog, fun g => g == 31, dsOf (cfgX z), [⟨⟨32, [.c (.cx .f64)], [.agg [.c (.int .i64), .c (.int .i64)]]⟩, clock_Pair⟩, ⟨⟨26, [.agg [.c (.int .i64), .c (.int .i64)]], [.c (.cx .f64)]⟩, clock_Of⟩]⟩) (H := ⟨[], [], 6, []⟩) (a := [.c (.cx .f64)]) (rs := [.c (.cx .f64)]) ⟨rfl, rfl, rfl, rfl, (consT s_clock_Pair (consT s_clock_Of nilT))⟩ clock_whole 80 Tryd.func53 rfl (by kernel_rfl) (by kernel_rfl) (by kernel_rfl) (by kernel_rfl) (by kernel_rfl) (by kernel_rfl) (fun t => by kernel_rfl) (fun x => by kernel_rfl)
theorem s_clock_Tick : FSound (cfgX z) ⟨⟨33, [.c (.cx .f64), .c (.int .i64)], [.c (.cx .f64)]⟩, clock_Tick⟩ :=
  w_sound (W := ⟨real, Tryd.prog, fun g => g == 31, dsOf (cfgX z), [⟨⟨53, [.c (.cx .f64)], [.c (.cx .f64)]⟩, clock_whole⟩]⟩) (H := ⟨[], [], 16, []⟩) (a := [.c (.cx .f64), .c (.int .i64)]) (rs := [.c (.cx .f64)]) ⟨rfl, rfl, rfl, rfl, (consT s_clock_whole nilT)⟩ clock_Tick 80 Tryd.func33 rfl (by kernel_rfl) (by kernel_rfl) (by kernel_rfl) (by kernel_rfl) (by kernel_rfl) (by kernel_rfl) (fun t => by kernel_rfl) (fun x => by kernel_rfl)
theorem s_slices_Equal_Entry : FSound (cfgX z) ⟨⟨47, [.c (.sl (.cons .str (.cons .bool (.cons .str (.cons (.int .i64) (.one (.int .i64))))))), .c (.sl (.cons .str (.cons .bool (.cons .str (.cons (.int .i64) (.one (.int .i64)))))))], [.c .bool]⟩, slices_Equal_Entry⟩ :=
  w_sound (W := ⟨real, Tryd.prog, fun g => g == 31, dsOf (cfgX z), []⟩) (H := ⟨[(4, [.val 13 (.c (.int .i64))], [0, 1, 12])], [], 26, []⟩) (a := [.c (.sl (.cons .str (.cons .bool (.cons .str (.cons (.int .i64) (.one (.int .i64))))))), .c (.sl (.cons .str (.cons .bool (.cons .str (.cons (.int .i64) (.one (.int .i64)))))))]) (rs := [.c .bool]) ⟨rfl, rfl, rfl, rfl, nilT⟩ slices_Equal_Entry 80 Tryd.func47 rfl (by kernel_rfl) (by kernel_rfl) (by kernel_rfl) (by kernel_rfl) (by kernel_rfl) (by kernel_rfl) (fun t => by kernel_rfl) (fun x => by kernel_rfl)
theorem s_scan_Same : FSound (cfgX z) ⟨⟨24, [.c (.sl (.cons .str (.cons .bool (.cons .str (.cons (.int .i64) (.one (.int .i64))))))), .c (.sl (.cons .str (.cons .bool (.cons .str (.cons (.int .i64) (.one (.int .i64)))))))], [.c .bool]⟩, scan_Same⟩ :=
  w_sound (W := ⟨real, Tryd.prog, fun g => g == 31, dsOf (cfgX z), [⟨⟨47, [.c (.sl (.cons .str (.cons .bool (.cons .str (.cons (.int .i64) (.one (.int .i64))))))), .c (.sl (.cons .str (.cons .bool (.cons .str (.cons (.int .i64) (.one (.int .i64)))))))], [.c .bool]⟩, slices_Equal_Entry⟩]⟩) (H := ⟨[], [], 8, []⟩) (a := [.c (.sl (.cons .str (.cons .bool (.cons .str (.cons (.int .i64) (.one (.int .i64))))))), .c (.sl (.cons .str (.cons .bool (.cons .str (.cons (.int .i64) (.one (.int .i64)))))))]) (rs := [.c .bool]) ⟨rfl, rfl, rfl, rfl, (consT s_slices_Equal_Entry nilT)⟩ scan_Same 80 Tryd.func24 rfl (by kernel_rfl) (by kernel_rfl) (by kernel_rfl) (by kernel_rfl) (by kernel_rfl) (by kernel_rfl) (fun t => by kernel_rfl) (fun x => by kernel_rfl)
theorem s_scan_find_1 : FSound (cfgX z) ⟨⟨65, [.agg [.c .str, .c .bool, .c .str, .c (.int .i64), .c (.int .i64)], .ref [.c .str] 0], [.c .bool]⟩, scan_find_1⟩ :=
  w_sound (W := ⟨real, Tryd.prog, fun g => g == 31, dsOf (cfgX z), []⟩) (H := ⟨[], [], 8, []⟩) (a := [.agg [.c .str, .c .bool, .c .str, .c (.int .i64), .c (.int .i64)], .ref [.c .str] 0]) (rs := [.c .bool]) ⟨rfl, rfl, rfl, rfl, nilT⟩ scan_find_1 80 Tryd.func65 rfl (by kernel_rfl) (by kernel_rfl) (by kernel_rfl) (by kernel_rfl) (by kernel_rfl) (by kernel_rfl) (fun t => by kernel_rfl) (fun x => by kernel_rfl)
theorem s_slices_IndexFunc_Entry_scan_find_1 : FSound (cfgX z) ⟨⟨64, [.c (.sl (.cons .str (.cons .bool (.cons .str (.cons (.int .i64) (.one (.int .i64))))))), .fn 65 [] [.ref [.c .str] 0]], [.c (.int .i64)]⟩, slices_IndexFunc_Entry_scan_find_1⟩ :=
  w_sound (W := ⟨real, Tryd.prog, fun g => g == 31, dsOf (cfgX z), [⟨⟨65, [.agg [.c .str, .c .bool, .c .str, .c (.int .i64), .c (.int .i64)], .ref [.c .str] 0], [.c .bool]⟩, scan_find_1⟩]⟩) (H := ⟨[(2, [.val 8 (.c (.int .i64))], [0, 1, 7])], [], 19, []⟩) (a := [.c (.sl (.cons .str (.cons .bool (.cons .str (.cons (.int .i64) (.one (.int .i64))))))), .fn 65 [] [.ref [.c .str] 0]]) (rs := [.c (.int .i64)]) ⟨rfl, rfl, rfl, rfl, (consT s_scan_find_1 nilT)⟩ slices_IndexFunc_Entry_scan_find_1 80 Tryd.func64 rfl (by kernel_rfl) (by kernel_rfl) (by kernel_rfl) (by kernel_rfl) (by kernel_rfl) (by kernel_rfl) (fun t => by kernel_rfl) (fun x => by kernel_rfl)
theorem s_scan_find : FSound (cfgX z) ⟨⟨46, [.c (.sl (.cons .str (.cons .bool (.cons .str (.cons (.int .i64) (.one (.int .i64))))))), .c .str], [.c (.int .i64)]⟩, scan_find⟩ :=
  w_sound (W := ⟨real, Tryd.prog, fun g => g == 31, dsOf (cfgX z), [⟨⟨64, [.c (.sl (.cons .str (.cons .bool (.cons .str (.cons (.int .i64) (.one (.int .i64))))))), .fn 65 [] [.ref [.c .str] 0]], [.c (.int .i64)]⟩, slices_IndexFunc_Entry_scan_find_1⟩]⟩) (H := ⟨[], [], 8, []⟩) (a := [.c (.sl (.cons .str (.cons .bool (.cons .str (.cons (.int .i64) (.one (.int .i64))))))), .c .str]) (rs := [.c (.int .i64)]) ⟨rfl, rfl, rfl, rfl, (consT s_slices_IndexFunc_Entry_scan_find_1 nilT)⟩ scan_find 80 Tryd.func46 rfl (by kernel_rfl) (by kernel_rfl) (by kernel_rfl) (by kernel_rfl) (by kernel_rfl) (by kernel_rfl) (fun t => by kernel_rfl) (fun x => by kernel_rfl)
theorem s_scan_Find : FSound (cfgX z) ⟨⟨19, [.c (.sl (.cons .str (.cons .bool (.cons .str (.cons (.int .i64) (.one (.int .i64))))))), .c .str], [.c (.int .i64)]⟩, scan_Find⟩ :=
  w_sound (W := ⟨real, Tryd.prog, fun g => g == 31, dsOf (cfgX z), [⟨⟨17, [.c (.sl (.cons .str (.cons .bool (.cons .str (.cons (.int .i64) (.one (.int .i64)))))))], [.c .bool]⟩, scan_Right⟩, ⟨⟨46, [.c (.sl (.cons .str (.cons .bool (.cons .str (.cons (.int .i64) (.one (.int .i64))))))), .c .str], [.c (.int .i64)]⟩, scan_find⟩]⟩) (H := ⟨[], [], 11, []⟩) (a := [.c (.sl (.cons .str (.cons .bool (.cons .str (.cons (.int .i64) (.one (.int .i64))))))), .c .str]) (rs := [.c (.int .i64)]) ⟨rfl, rfl, rfl, rfl, (consT s_scan_Right (consT s_scan_find nilT))⟩ scan_Find 80 Tryd.func19 rfl (by kernel_rfl) (by kernel_rfl) (by kernel_rfl) (by kernel_rfl) (by kernel_rfl) (by kernel_rfl) (fun t => by kernel_rfl) (fun x => by kernel_rfl)
theorem s_scan_Tree : FSound (cfgX z) ⟨⟨22, [.c (.sl (.cons .str (.cons .bool (.cons .str (.cons (.int .i64) (.one (.int .i64)))))))], [.fr (.cons .str (.one .str))]⟩, scan_Tree⟩ :=
  w_sound (W := ⟨real, Tryd.prog, fun g => g == 31, dsOf (cfgX z), [⟨⟨17, [.c (.sl (.cons .str (.cons .bool (.cons .str (.cons (.int .i64) (.one (.int .i64)))))))], [.c .bool]⟩, scan_Right⟩, ⟨⟨42, [.c (.sl (.cons .str (.cons .bool (.cons .str (.cons (.int .i64) (.one (.int .i64)))))))], [.fr (.cons .str (.one .str))]⟩, scan_files⟩]⟩) (H := ⟨[], [], 8, []⟩) (a := [.c (.sl (.cons .str (.cons .bool (.cons .str (.cons (.int .i64) (.one (.int .i64)))))))]) (rs := [.fr (.cons .str (.one .str))]) ⟨rfl, rfl, rfl, rfl, (consT s_scan_Right (consT s_scan_files nilT))⟩ scan_Tree 80 Tryd.func22 rfl (by kernel_rfl) (by kernel_rfl) (by kernel_rfl) (by kernel_rfl) (by kernel_rfl) (by kernel_rfl) (fun t => by kernel_rfl) (fun x => by kernel_rfl)
theorem s_scan_Copy : FSound (cfgX z) ⟨⟨14, [.c (.sl (.cons .str (.cons .bool (.cons .str (.cons (.int .i64) (.one (.int .i64)))))))], [.fr (.cons .str (.cons .bool (.cons .str (.cons (.int .i64) (.one (.int .i64))))))]⟩, scan_Copy⟩ :=
  w_sound (W := ⟨real, Tryd.prog, fun g => g == 31, dsOf (cfgX z), [⟨⟨39, [.c (.sl (.cons .str (.cons .bool (.cons .str (.cons (.int .i64) (.one (.int .i64)))))))], [.fr (.cons .str (.cons .bool (.cons .str (.cons (.int .i64) (.one (.int .i64))))))]⟩, slices_Clone_Entry⟩]⟩) (H := ⟨[], [], 5, []⟩) (a := [.c (.sl (.cons .str (.cons .bool (.cons .str (.cons (.int .i64) (.one (.int .i64)))))))]) (rs := [.fr (.cons .str (.cons .bool (.cons .str (.cons (.int .i64) (.one (.int .i64))))))]) ⟨rfl, rfl, rfl, rfl, (consT s_slices_Clone_Entry nilT)⟩ scan_Copy 80 Tryd.func14 rfl (by kernel_rfl) (by kernel_rfl) (by kernel_rfl) (by kernel_rfl) (by kernel_rfl) (by kernel_rfl) (fun t => by kernel_rfl) (fun x => by kernel_rfl)
theorem s_law09_Few : FSound (cfgX z) ⟨⟨10, [.c (.sl (.cons .str (.cons .bool (.cons .str (.cons (.int .i64) (.one (.int .i64)))))))], [.c .bool]⟩, law09_Few⟩ :=
  w_sound (W := ⟨real, Tryd.prog, fun g => g == 31, dsOf (cfgX z), []⟩) (H := ⟨[(4, [.val 3 (.c (.int .i64))], [0])], [], 29, []⟩) (a := [.c (.sl (.cons .str (.cons .bool (.cons .str (.cons (.int .i64) (.one (.int .i64)))))))]) (rs := [.c .bool]) ⟨rfl, rfl, rfl, rfl, nilT⟩ law09_Few 80 Tryd.func10 rfl (by kernel_rfl) (by kernel_rfl) (by kernel_rfl) (by kernel_rfl) (by kernel_rfl) (by kernel_rfl) (fun t => by kernel_rfl) (fun x => by kernel_rfl)
theorem s_law04_Few : FSound (cfgX z) ⟨⟨11, [.c (.sl (.cons .str (.one .str)))], [.c .bool]⟩, law04_Few⟩ :=
  w_sound (W := ⟨real, Tryd.prog, fun g => g == 31, dsOf (cfgX z), []⟩) (H := ⟨[(4, [.val 3 (.c (.int .i64))], [0])], [], 29, []⟩) (a := [.c (.sl (.cons .str (.one .str)))]) (rs := [.c .bool]) ⟨rfl, rfl, rfl, rfl, nilT⟩ law04_Few 80 Tryd.func11 rfl (by kernel_rfl) (by kernel_rfl) (by kernel_rfl) (by kernel_rfl) (by kernel_rfl) (by kernel_rfl) (fun t => by kernel_rfl) (fun x => by kernel_rfl)
theorem s_ref01_Rows : FSound (cfgX z) ⟨⟨16, [.c (.sl (.one .str)), .c (.sl (.one .str))], [.c .bool]⟩, ref01_Rows⟩ :=
  w_sound (W := ⟨real, Tryd.prog, fun g => g == 31, dsOf (cfgX z), []⟩) (H := ⟨[(4, [.val 5 (.c (.int .i64))], [0, 1])], [], 26, []⟩) (a := [.c (.sl (.one .str)), .c (.sl (.one .str))]) (rs := [.c .bool]) ⟨rfl, rfl, rfl, rfl, nilT⟩ ref01_Rows 80 Tryd.func16 rfl (by kernel_rfl) (by kernel_rfl) (by kernel_rfl) (by kernel_rfl) (by kernel_rfl) (by kernel_rfl) (fun t => by kernel_rfl) (fun x => by kernel_rfl)
end Go.Proofs.W.Q9
namespace Go.Proofs.W.Q9
open Go Go.Proofs Go.Proofs.V Go.Proofs.V.R9
set_option linter.unusedVariables false
set_option linter.unusedSimpArgs false
set_option maxRecDepth 100000
noncomputable def bodyOf (f : Go.Func) : Go.Code := f.body.getD .skip
noncomputable def ig9 : IG := match bodyOf Tryd.f55 with
  | .block i0 (.loop (.seq A (.block i1 (.seq B (.seq C (.seq (.region id ops _) (.cond (.tmp dn) _ _))))))) => match ops.toList with
    | [om, p1, p2, oy, on] => ⟨55, i0, i1, id, 92, dn, 89, 90, 91, A, B, C, ops, om, [p1, p2], oy, on⟩
    | _ => ⟨0, 0, 0, 0, 0, 0, 0, 0, 0, .skip, .skip, .skip, #[], default, [], default, default⟩
  | _ => ⟨0, 0, 0, 0, 0, 0, 0, 0, 0, .skip, .skip, .skip, #[], default, [], default, default⟩
noncomputable def rf9 : RF := match bodyOf Tryd.f12 with
  | .seq r0 (.seq c1 (.seq r3 (.seq r4 (.seq (.seq r5 (.block b0 (.rangeFunc (.tmp tg) _ assign body))) (.seq c15 (.seq r17 _)))))) => ⟨12, [r0, c1, r3, r4], r5, b0, tg, 55, 24, 25, assign, body, [c15, r17]⟩
  | _ => ⟨0, [], .skip, 0, 0, 0, 0, 0, .skip, .skip, []⟩
def h9 : List HE := [.box 5 [.c (.int .i64)], .box 6 [.c (.sl (.cons .str (.cons .bool (.cons .str (.cons (.int .i64) (.one (.int .i64)))))))], .box 7 [.c (.sl (.one .str))], .box 8 [.c (.int .i64)], .box 9 [.fr (.cons .str (.cons .bool (.cons .str (.cons (.int .i64) (.one (.int .i64))))))], .box 10 [.fr (.one .str)]]
def rg9 : RG := ⟨0, 1, 21, 22, h9⟩
noncomputable abbrev c0 : Cfg := cfgX none
theorem ext0 : ∀ g s xs r, c0.ext g = some s → s xs = some r → CSound c0.P g xs [] r [] := ext_ok (fun s xs r h => by cases h)
/-- The iterator. -/
theorem both_ok {cs0 cs1 : List AV} {xs : List (AV × AV)} (h : itIter (τ := tau9) both_step cs0 cs1 = some xs) : IterOk Tryd.prog 55 cs0 cs1 xs :=
  iter_typed (W := ⟨real, Tryd.prog, fun g => g == 31, dsOf c0, []⟩) (cfg := c0) (H := ⟨[], [], 94, []⟩) ⟨rfl, rfl, rfl, rfl, nilT⟩ mixed ext0 (fn := Tryd.f55) (g := ig9) (τ := tau9) (ty := 4) (tys := #[37, 37]) both_step 80 Tryd.func55 (by kernel_rfl) (by kernel_rfl) (by kernel_rfl) (fun t => by kernel_rfl) (by kernel_rfl) (by kernel_rfl) (by kernel_rfl) (by kernel_rfl) (by kernel_rfl) (by kernel_rfl) (by kernel_rfl)
    rfl rfl rfl rfl (fun l0 l1 => by kernel_rfl) h
/-- The call that makes the closure. -/
def R5G (F : St) (rows0 rows1 : List (List AV)) (nl0 nl1 : Bool) : Prop := ∃ F5 o0' o1', evC c0 rf9.r5 F = some (.normal, F5) ∧ F5.n = F.n ∧ F5.m = F.m ∧ F5.al = F.al ∧ F.c ≤ F5.c ∧ F5.H = [[.slice rows0 nl0 o0'], [.slice rows1 nl1 o1']] ∧ F5.ev (.tmp 23) = .fn (.func 55) [] [.hp 0 0, .hp 1 0] ∧
    (∀ i, i ≠ 21 → i ≠ 22 → i ≠ 23 → F5.t i = F.t i) ∧ (∃ o, F5.t 21 = .slice rows0 nl0 o) ∧ (∃ o, F5.t 22 = .slice rows1 nl1 o)
theorem r5_key {F : St} {rows0 rows1 : List (List AV)} {nl0 nl1 : Bool} (o0' o1' p0 p1 : V.Own) (h : (evN c0 60).1 rf9.r5 F = some (.normal, ⟨F.n, upd (upd (upd F.t 21 (.slice rows0 nl0 p0)) 22 (.slice rows1 nl1 p1)) 23 (.fn (.func 55) [] [.hp 0 0, .hp 1 0]), F.c + 192, fun n => F.al n || false, [[.slice rows0 nl0 o0'], [.slice rows1 nl1 o1']], F.m⟩)) : R5G F rows0 rows1 nl0 nl1 :=
  ⟨_, o0', o1', evC_some.2 ⟨60, h⟩, rfl, rfl, funext fun n => Bool.or_false _, Nat.le_add_right _ _, rfl, rfl, fun i h1 h2 h3 => by simp only [upd_apply, h1, h2, h3, if_false], ⟨p0, rfl⟩, ⟨p1, rfl⟩⟩
theorem r5_run (rows0 rows1 : List (List AV)) (nl0 nl1 : Bool) (o0 o1 : V.Own) (t : Nat → AV) (c : Nat) (al : Nat → Bool) (m : TypeId → Bool) : R5G ⟨58, updL [(0, .slice rows0 nl0 o0), (1, .slice rows1 nl1 o1)] t, c, al, [], m⟩ rows0 rows1 nl0 nl1 := by
  cases o0 with
  | no => cases o1 with
    | no => exact r5_key .no .no .no .no (by kernel_rfl)
    | full => exact r5_key .no .full .no .full (by kernel_rfl)
    | fresh => exact r5_key .no .no .no .fresh (by kernel_rfl)
    | id k => exact r5_key .no .no .no (.id k) (by kernel_rfl)
  | full => cases o1 with
    | no => exact r5_key .full .no .full .no (by kernel_rfl)
    | full => exact r5_key .full .full .full .full (by kernel_rfl)
    | fresh => exact r5_key .full .no .full .fresh (by kernel_rfl)
    | id k => exact r5_key .full .no .full (.id k) (by kernel_rfl)
  | fresh => cases o1 with
    | no => exact r5_key .no .no .fresh .no (by kernel_rfl)
    | full => exact r5_key .no .full .fresh .full (by kernel_rfl)
    | fresh => exact r5_key .no .no .fresh .fresh (by kernel_rfl)
    | id k => exact r5_key .no .no .fresh (.id k) (by kernel_rfl)
  | id j => cases o1 with
    | no => exact r5_key .no .no (.id j) .no (by kernel_rfl)
    | full => exact r5_key .no .full (.id j) .full (by kernel_rfl)
    | fresh => exact r5_key .no .no (.id j) .fresh (by kernel_rfl)
    | id k => exact r5_key .no .no (.id j) (.id k) (by kernel_rfl)
theorem tg9 : rf9.tg = 23 := by kernel_rfl
theorem gf9 : rf9.gf = 55 := by kernel_rfl
theorem f9 : rf9.f = 12 := by kernel_rfl
theorem updL2 (t : Nat → AV) {A B : AV} (h0 : t 0 = A) (h1 : t 1 = B) : updL [(0, A), (1, B)] t = t := by
  funext i
  simp only [updL]
  by_cases e0 : i = 0
  · subst e0; simp [upd_apply, h0]
  · by_cases e1 : i = 1
    · subst e1; simp [upd_apply, h1]
    · simp [upd_apply, e0, e1]
theorem r5_ok : R5Ok c0 58 rf9 rg9 := ⟨fun F rows0 rows1 nl0 nl1 o0 o1 hn hH ha hb => by
  obtain ⟨n, t, c, al, H, m⟩ := F
  have hn : n = 58 := hn
  have hH : H = [] := hH
  subst hn hH
  have e := updL2 t (show t 0 = _ from ha) (show t 1 = _ from hb)
  have := r5_run rows0 rows1 nl0 nl1 o0 o1 t c al m
  rw [e] at this
  rw [tg9, gf9]
  exact this⟩
noncomputable def scanExt : List AV → Option AV := rfRun c0 Tryd.f12 rf9 (itIter (τ := tau9) both_step)
noncomputable abbrev cfgS : Cfg := cfgX (some scanExt)
theorem scan_csound : ∀ s xs r, some scanExt = some s → s xs = some r → CSound Tryd.prog 12 xs [] r [] := by
  intro s xs r hs hr
  cases hs
  have h := rf_sound (cfg := c0) mixed ext0 (fn := Tryd.f12) (gfn := Tryd.f55) (R := rf9) (iter := itIter (τ := tau9) both_step) (by rw [f9]; exact Tryd.func12) (by kernel_rfl) (by kernel_rfl) (by rw [gf9]; exact Tryd.func55) (by kernel_rfl) (by kernel_rfl) (by kernel_rfl) (fun cs0 cs1 xs h => by rw [gf9]; exact both_ok h) hr
  rw [f9] at h
  exact h
theorem extS : ∀ g s xs r, cfgS.ext g = some s → s xs = some r → CSound cfgS.P g xs [] r [] := ext_ok scan_csound
theorem it_hit : ∀ (l0 : List (Tr tau9.q0)) (l1 : List (Tr tau9.q1)) xs rows0 rows1 nl0 nl1 o0 o1, itRun (τ := tau9) both_step l0 l1 = some xs → (All2 (rowR tau9.q0) l0 rows0 ∧ (nl0 = true → rows0 = [])) → (All2 (rowR tau9.q1) l1 rows1 ∧ (nl1 = true → rows1 = [])) → itIter (τ := tau9) both_step [.slice rows0 nl0 o0] [.slice rows1 nl1 o1] = some (xs.map (enc2 tau9.r1 tau9.r2)) := by
  intro l0 l1 xs rows0 rows1 nl0 nl1 o0 o1 h h0 h1
  have hc : ((!nl0 || rows0.isEmpty) && (!nl1 || rows1.isEmpty)) = true := by
    simp only [Bool.and_eq_true, Bool.or_eq_true, Bool.not_eq_true', List.isEmpty_iff]
    refine ⟨?_, ?_⟩
    · cases nl0 with
      | false => exact .inl rfl
      | true => exact .inr (h0.2 rfl)
    · cases nl1 with
      | false => exact .inl rfl
      | true => exact .inr (h1.2 rfl)
  simp only [itIter, hc, if_true, decL_of tau9.q0 rfl l0 rows0 h0.1, decL_of tau9.q1 rfl l1 rows1 h1.1, h, Option.map_some]
theorem s_scan_Scan : FSound cfgS ⟨⟨12, [.c (.sl (.cons .str (.cons .bool (.cons .str (.cons (.int .i64) (.one (.int .i64))))))), .c (.sl (.cons .str (.one .str))), .c (.int .i64)], [.c (.sl (.cons .str (.cons .bool (.cons .str (.cons (.int .i64) (.one (.int .i64))))))), .c (.sl (.one .str)), .c (.int .i64)]⟩, scan_Scan⟩ := by
  have h := rf_fsound (W := ⟨real, Tryd.prog, fun g => g == 31, dsOf c0, [⟨⟨17, [.c (.sl (.cons .str (.cons .bool (.cons .str (.cons (.int .i64) (.one (.int .i64)))))))], [.c .bool]⟩, scan_Right⟩, ⟨⟨27, [.c (.sl (.cons .str (.one .str)))], [.c .bool]⟩, tree_Right⟩, ⟨⟨26, [.agg [.c (.int .i64), .c (.int .i64)]], [.c (.cx .f64)]⟩, clock_Of⟩, ⟨⟨33, [.c (.cx .f64), .c (.int .i64)], [.c (.cx .f64)]⟩, clock_Tick⟩, ⟨⟨32, [.c (.cx .f64)], [.agg [.c (.int .i64), .c (.int .i64)]]⟩, clock_Pair⟩]⟩) (cfg0 := c0) (cfg := cfgS) (H := ⟨[], [], 58, []⟩)
    ⟨rfl, rfl, rfl, rfl, consT s_scan_Right (consT s_tree_Right (consT s_clock_Of (consT s_clock_Tick (consT s_clock_Pair nilT))))⟩ (fn := Tryd.f12) (R := rf9) (g := rg9) (τ := tau9) (IT := itRun (τ := tau9) both_step) (iter := itIter (τ := tau9) both_step)
    (a := [.c (.sl (.cons .str (.cons .bool (.cons .str (.cons (.int .i64) (.one (.int .i64))))))), .c (.sl (.cons .str (.one .str))), .c (.int .i64)]) (rs := [.c (.sl (.cons .str (.cons .bool (.cons .str (.cons (.int .i64) (.one (.int .i64))))))), .c (.sl (.one .str)), .c (.int .i64)])
    scan_Scan 80 (by rw [f9]; rfl) (by kernel_rfl) (by kernel_rfl) (fun t => by rw [f9]; rfl) (by kernel_rfl) rfl rfl r5_ok it_hit (fun x => by kernel_rfl)
  rw [f9] at h
  exact h
end Go.Proofs.W.Q9
namespace Go.Proofs.W.Q9
open Go Go.Proofs Go.Proofs.V Go.Proofs.V.R9
set_option linter.unusedVariables false
set_option linter.unusedSimpArgs false
set_option maxRecDepth 100000
theorem s_law09_small : FSound cfgS ⟨⟨9, [], [.c .bool]⟩, law09_small⟩ :=
  w_sound (W := ⟨real, Tryd.prog, fun g => g == 31, dsOf cfgS, [⟨⟨12, [.c (.sl (.cons .str (.cons .bool (.cons .str (.cons (.int .i64) (.one (.int .i64))))))), .c (.sl (.cons .str (.one .str))), .c (.int .i64)], [.c (.sl (.cons .str (.cons .bool (.cons .str (.cons (.int .i64) (.one (.int .i64))))))), .c (.sl (.one .str)), .c (.int .i64)]⟩, scan_Scan⟩, ⟨⟨24, [.c (.sl (.cons .str (.cons .bool (.cons .str (.cons (.int .i64) (.one (.int .i64))))))), .c (.sl (.cons .str (.cons .bool (.cons .str (.cons (.int .i64) (.one (.int .i64)))))))], [.c .bool]⟩, scan_Same⟩, ⟨⟨19, [.c (.sl (.cons .str (.cons .bool (.cons .str (.cons (.int .i64) (.one (.int .i64))))))), .c .str], [.c (.int .i64)]⟩, scan_Find⟩, ⟨⟨22, [.c (.sl (.cons .str (.cons .bool (.cons .str (.cons (.int .i64) (.one (.int .i64)))))))], [.fr (.cons .str (.one .str))]⟩, scan_Tree⟩, ⟨⟨17, [.c (.sl (.cons .str (.cons .bool (.cons .str (.cons (.int .i64) (.one (.int .i64)))))))], [.c .bool]⟩, scan_Right⟩, ⟨⟨14, [.c (.sl (.cons .str (.cons .bool (.cons .str (.cons (.int .i64) (.one (.int .i64)))))))], [.fr (.cons .str (.cons .bool (.cons .str (.cons (.int .i64) (.one (.int .i64))))))]⟩, scan_Copy⟩]⟩) (H := ⟨[], [], 114, []⟩) (a := []) (rs := [.c .bool]) ⟨rfl, rfl, rfl, rfl, (consT s_scan_Scan (consT s_scan_Same (consT s_scan_Find (consT s_scan_Tree (consT s_scan_Right (consT s_scan_Copy nilT))))))⟩ law09_small 80 Tryd.func9 rfl (by kernel_rfl) (by kernel_rfl) (by kernel_rfl) (by kernel_rfl) (by kernel_rfl) (by kernel_rfl) (fun t => by kernel_rfl) (fun x => by kernel_rfl)
end Go.Proofs.W.Q9
namespace Go.Proofs.W.Q9
open Go Go.Proofs Go.Proofs.V Go.Proofs.V.R9 Go.Proofs.W
set_option linter.unusedVariables false
set_option linter.unusedSimpArgs false
set_option maxRecDepth 100000
variable {z : Option (List AV → Option AV)}
theorem s_ref03_cut : FSound (cfgX z) ⟨⟨62, [.c .str], [.fr (.one .str)]⟩, Q10.ref03_cut⟩ :=
  w_sound (W := ⟨real, Tryd.prog, fun g => g == 31, dsOf (cfgX z), []⟩) (H := ⟨[(4, [.val 3 (.fr (.one .str)), .val 4 (.c (.int .i64)), .val 5 (.c (.int .i64))], [0])], [], 32, []⟩) (a := [.c .str]) (rs := [.fr (.one .str)]) ⟨rfl, rfl, rfl, rfl, nilT⟩ Q10.ref03_cut 80 Tryd.func62 rfl (by kernel_rfl) (by kernel_rfl) (by kernel_rfl) (by kernel_rfl) (by kernel_rfl) (by kernel_rfl) (fun t => by kernel_rfl) (fun x => by kernel_rfl)
theorem s_ref03_Name : FSound (cfgX z) ⟨⟨63, [.c .str], [.c .bool]⟩, Q10.ref03_Name⟩ :=
  w_sound (W := ⟨real, Tryd.prog, fun g => g == 31, dsOf (cfgX z), []⟩) (H := ⟨[(4, [.val 3 (.c (.int .i64))], [0])], [], 53, []⟩) (a := [.c .str]) (rs := [.c .bool]) ⟨rfl, rfl, rfl, rfl, nilT⟩ Q10.ref03_Name 80 Tryd.func63 rfl (by kernel_rfl) (by kernel_rfl) (by kernel_rfl) (by kernel_rfl) (by kernel_rfl) (by kernel_rfl) (fun t => by kernel_rfl) (fun x => by kernel_rfl)
theorem s_ref03_Right : FSound (cfgX z) ⟨⟨43, [.c .str], [.c .bool]⟩, Q10.ref03_Right⟩ :=
  w_sound (W := ⟨real, Tryd.prog, fun g => g == 31, dsOf (cfgX z), [⟨⟨62, [.c .str], [.fr (.one .str)]⟩, Q10.ref03_cut⟩, ⟨⟨63, [.c .str], [.c .bool]⟩, Q10.ref03_Name⟩]⟩) (H := ⟨[(5, [.val 4 (.c (.int .i64))], [3])], [], 22, []⟩) (a := [.c .str]) (rs := [.c .bool]) ⟨rfl, rfl, rfl, rfl, (consT s_ref03_cut (consT s_ref03_Name nilT))⟩ Q10.ref03_Right 80 Tryd.func43 rfl (by kernel_rfl) (by kernel_rfl) (by kernel_rfl) (by kernel_rfl) (by kernel_rfl) (by kernel_rfl) (fun t => by kernel_rfl) (fun x => by kernel_rfl)
theorem s_ref02_Right : FSound (cfgX z) ⟨⟨44, [.agg [.c (.int .i64), .c (.int .i64)]], [.c .bool]⟩, Q10.ref02_Right⟩ :=
  w_sound (W := ⟨real, Tryd.prog, fun g => g == 31, dsOf (cfgX z), []⟩) (H := ⟨[], [], 21, []⟩) (a := [.agg [.c (.int .i64), .c (.int .i64)]]) (rs := [.c .bool]) ⟨rfl, rfl, rfl, rfl, nilT⟩ Q10.ref02_Right 80 Tryd.func44 rfl (by kernel_rfl) (by kernel_rfl) (by kernel_rfl) (by kernel_rfl) (by kernel_rfl) (by kernel_rfl) (fun t => by kernel_rfl) (fun x => by kernel_rfl)
theorem s_ref09_files : FSound (cfgX z) ⟨⟨45, [.c (.sl (.cons .str (.cons .bool (.cons .str (.cons (.int .i64) (.one (.int .i64)))))))], [.fr (.cons .str (.one .str))]⟩, Q10.ref09_files⟩ :=
  w_sound (W := ⟨real, Tryd.prog, fun g => g == 31, dsOf (cfgX z), []⟩) (H := ⟨[(3, [.val 3 (.fr (.cons .str (.one .str))), .val 4 (.c (.int .i64))], [0])], [], 31, []⟩) (a := [.c (.sl (.cons .str (.cons .bool (.cons .str (.cons (.int .i64) (.one (.int .i64)))))))]) (rs := [.fr (.cons .str (.one .str))]) ⟨rfl, rfl, rfl, rfl, nilT⟩ Q10.ref09_files 80 Tryd.func45 rfl (by kernel_rfl) (by kernel_rfl) (by kernel_rfl) (by kernel_rfl) (by kernel_rfl) (by kernel_rfl) (fun t => by kernel_rfl) (fun x => by kernel_rfl)
theorem s_ref03_Under : FSound (cfgX z) ⟨⟨57, [.c .str, .c .str], [.c .bool]⟩, Q10.ref03_Under⟩ :=
  w_sound (W := ⟨real, Tryd.prog, fun g => g == 31, dsOf (cfgX z), [⟨⟨43, [.c .str], [.c .bool]⟩, Q10.ref03_Right⟩]⟩) (H := ⟨[], [], 33, []⟩) (a := [.c .str, .c .str]) (rs := [.c .bool]) ⟨rfl, rfl, rfl, rfl, (consT s_ref03_Right nilT)⟩ Q10.ref03_Under 80 Tryd.func57 rfl (by kernel_rfl) (by kernel_rfl) (by kernel_rfl) (by kernel_rfl) (by kernel_rfl) (by kernel_rfl) (fun t => by kernel_rfl) (fun x => by kernel_rfl)
theorem s_ref04_Right : FSound (cfgX z) ⟨⟨34, [.c (.sl (.cons .str (.one .str)))], [.c .bool]⟩, Q10.ref04_Right⟩ :=
  w_sound (W := ⟨real, Tryd.prog, fun g => g == 31, dsOf (cfgX z), [⟨⟨43, [.c .str], [.c .bool]⟩, Q10.ref03_Right⟩, ⟨⟨57, [.c .str, .c .str], [.c .bool]⟩, Q10.ref03_Under⟩]⟩) (H := ⟨[(4, [.val 3 (.c (.int .i64))], [0]), (10, [.val 5 (.c (.int .i64))], [0, 3])], [], 66, []⟩) (a := [.c (.sl (.cons .str (.one .str)))]) (rs := [.c .bool]) ⟨rfl, rfl, rfl, rfl, (consT s_ref03_Right (consT s_ref03_Under nilT))⟩ Q10.ref04_Right 80 Tryd.func34 rfl (by kernel_rfl) (by kernel_rfl) (by kernel_rfl) (by kernel_rfl) (by kernel_rfl) (by kernel_rfl) (fun t => by kernel_rfl) (fun x => by kernel_rfl)
theorem s_ref09_Right : FSound (cfgX z) ⟨⟨18, [.c (.sl (.cons .str (.cons .bool (.cons .str (.cons (.int .i64) (.one (.int .i64)))))))], [.c .bool]⟩, Q10.ref09_Right⟩ :=
  w_sound (W := ⟨real, Tryd.prog, fun g => g == 31, dsOf (cfgX z), [⟨⟨43, [.c .str], [.c .bool]⟩, Q10.ref03_Right⟩, ⟨⟨44, [.agg [.c (.int .i64), .c (.int .i64)]], [.c .bool]⟩, Q10.ref02_Right⟩, ⟨⟨45, [.c (.sl (.cons .str (.cons .bool (.cons .str (.cons (.int .i64) (.one (.int .i64)))))))], [.fr (.cons .str (.one .str))]⟩, Q10.ref09_files⟩, ⟨⟨34, [.c (.sl (.cons .str (.one .str)))], [.c .bool]⟩, Q10.ref04_Right⟩]⟩) (H := ⟨[(4, [.val 3 (.c (.int .i64))], [0])], [], 72, []⟩) (a := [.c (.sl (.cons .str (.cons .bool (.cons .str (.cons (.int .i64) (.one (.int .i64)))))))]) (rs := [.c .bool]) ⟨rfl, rfl, rfl, rfl, (consT s_ref03_Right (consT s_ref02_Right (consT s_ref09_files (consT s_ref04_Right nilT))))⟩ Q10.ref09_Right 80 Tryd.func18 rfl (by kernel_rfl) (by kernel_rfl) (by kernel_rfl) (by kernel_rfl) (by kernel_rfl) (by kernel_rfl) (fun t => by kernel_rfl) (fun x => by kernel_rfl)
theorem s_ref09_find : FSound (cfgX z) ⟨⟨37, [.c (.sl (.cons .str (.cons .bool (.cons .str (.cons (.int .i64) (.one (.int .i64))))))), .c .str], [.c (.int .i64)]⟩, Q10.ref09_find⟩ :=
  w_sound (W := ⟨real, Tryd.prog, fun g => g == 31, dsOf (cfgX z), []⟩) (H := ⟨[(2, [.val 5 (.c (.int .i64))], [0, 1])], [], 20, []⟩) (a := [.c (.sl (.cons .str (.cons .bool (.cons .str (.cons (.int .i64) (.one (.int .i64))))))), .c .str]) (rs := [.c (.int .i64)]) ⟨rfl, rfl, rfl, rfl, nilT⟩ Q10.ref09_find 80 Tryd.func37 rfl (by kernel_rfl) (by kernel_rfl) (by kernel_rfl) (by kernel_rfl) (by kernel_rfl) (by kernel_rfl) (fun t => by kernel_rfl) (fun x => by kernel_rfl)
theorem s_ref09_Find : FSound (cfgX z) ⟨⟨20, [.c (.sl (.cons .str (.cons .bool (.cons .str (.cons (.int .i64) (.one (.int .i64))))))), .c .str], [.c (.int .i64)]⟩, Q10.ref09_Find⟩ :=
  w_sound (W := ⟨real, Tryd.prog, fun g => g == 31, dsOf (cfgX z), [⟨⟨18, [.c (.sl (.cons .str (.cons .bool (.cons .str (.cons (.int .i64) (.one (.int .i64)))))))], [.c .bool]⟩, Q10.ref09_Right⟩, ⟨⟨37, [.c (.sl (.cons .str (.cons .bool (.cons .str (.cons (.int .i64) (.one (.int .i64))))))), .c .str], [.c (.int .i64)]⟩, Q10.ref09_find⟩]⟩) (H := ⟨[], [], 11, []⟩) (a := [.c (.sl (.cons .str (.cons .bool (.cons .str (.cons (.int .i64) (.one (.int .i64))))))), .c .str]) (rs := [.c (.int .i64)]) ⟨rfl, rfl, rfl, rfl, (consT s_ref09_Right (consT s_ref09_find nilT))⟩ Q10.ref09_Find 80 Tryd.func20 rfl (by kernel_rfl) (by kernel_rfl) (by kernel_rfl) (by kernel_rfl) (by kernel_rfl) (by kernel_rfl) (fun t => by kernel_rfl) (fun x => by kernel_rfl)
theorem s_ref09_Tree : FSound (cfgX z) ⟨⟨23, [.c (.sl (.cons .str (.cons .bool (.cons .str (.cons (.int .i64) (.one (.int .i64)))))))], [.fr (.cons .str (.one .str))]⟩, Q10.ref09_Tree⟩ :=
  w_sound (W := ⟨real, Tryd.prog, fun g => g == 31, dsOf (cfgX z), [⟨⟨18, [.c (.sl (.cons .str (.cons .bool (.cons .str (.cons (.int .i64) (.one (.int .i64)))))))], [.c .bool]⟩, Q10.ref09_Right⟩, ⟨⟨45, [.c (.sl (.cons .str (.cons .bool (.cons .str (.cons (.int .i64) (.one (.int .i64)))))))], [.fr (.cons .str (.one .str))]⟩, Q10.ref09_files⟩]⟩) (H := ⟨[], [], 8, []⟩) (a := [.c (.sl (.cons .str (.cons .bool (.cons .str (.cons (.int .i64) (.one (.int .i64)))))))]) (rs := [.fr (.cons .str (.one .str))]) ⟨rfl, rfl, rfl, rfl, (consT s_ref09_Right (consT s_ref09_files nilT))⟩ Q10.ref09_Tree 80 Tryd.func23 rfl (by kernel_rfl) (by kernel_rfl) (by kernel_rfl) (by kernel_rfl) (by kernel_rfl) (by kernel_rfl) (fun t => by kernel_rfl) (fun x => by kernel_rfl)
theorem s_ref04_find : FSound (cfgX z) ⟨⟨68, [.c (.sl (.cons .str (.one .str))), .c .str], [.c (.int .i64)]⟩, Q10.ref04_find⟩ :=
  w_sound (W := ⟨real, Tryd.prog, fun g => g == 31, dsOf (cfgX z), []⟩) (H := ⟨[(2, [.val 5 (.c (.int .i64))], [0, 1])], [], 20, []⟩) (a := [.c (.sl (.cons .str (.one .str))), .c .str]) (rs := [.c (.int .i64)]) ⟨rfl, rfl, rfl, rfl, nilT⟩ Q10.ref04_find 80 Tryd.func68 rfl (by kernel_rfl) (by kernel_rfl) (by kernel_rfl) (by kernel_rfl) (by kernel_rfl) (by kernel_rfl) (fun t => by kernel_rfl) (fun x => by kernel_rfl)
theorem s_ref04_Find : FSound (cfgX z) ⟨⟨58, [.c (.sl (.cons .str (.one .str))), .c .str], [.c (.int .i64)]⟩, Q10.ref04_Find⟩ :=
  w_sound (W := ⟨real, Tryd.prog, fun g => g == 31, dsOf (cfgX z), [⟨⟨34, [.c (.sl (.cons .str (.one .str)))], [.c .bool]⟩, Q10.ref04_Right⟩, ⟨⟨68, [.c (.sl (.cons .str (.one .str))), .c .str], [.c (.int .i64)]⟩, Q10.ref04_find⟩]⟩) (H := ⟨[], [], 11, []⟩) (a := [.c (.sl (.cons .str (.one .str))), .c .str]) (rs := [.c (.int .i64)]) ⟨rfl, rfl, rfl, rfl, (consT s_ref04_Right (consT s_ref04_find nilT))⟩ Q10.ref04_Find 80 Tryd.func58 rfl (by kernel_rfl) (by kernel_rfl) (by kernel_rfl) (by kernel_rfl) (by kernel_rfl) (by kernel_rfl) (fun t => by kernel_rfl) (fun x => by kernel_rfl)
theorem s_ref04_Get : FSound (cfgX z) ⟨⟨36, [.c (.sl (.cons .str (.one .str))), .c .str], [.c .str, .c .bool]⟩, Q10.ref04_Get⟩ :=
  w_sound (W := ⟨real, Tryd.prog, fun g => g == 31, dsOf (cfgX z), [⟨⟨58, [.c (.sl (.cons .str (.one .str))), .c .str], [.c (.int .i64)]⟩, Q10.ref04_Find⟩]⟩) (H := ⟨[], [], 17, []⟩) (a := [.c (.sl (.cons .str (.one .str))), .c .str]) (rs := [.c .str, .c .bool]) ⟨rfl, rfl, rfl, rfl, (consT s_ref04_Find nilT)⟩ Q10.ref04_Get 80 Tryd.func36 rfl (by kernel_rfl) (by kernel_rfl) (by kernel_rfl) (by kernel_rfl) (by kernel_rfl) (by kernel_rfl) (fun t => by kernel_rfl) (fun x => by kernel_rfl)
theorem s_ref02_clamp : FSound (cfgX z) ⟨⟨60, [.c (.int .i64)], [.c (.int .i64)]⟩, Q10.ref02_clamp⟩ :=
  w_sound (W := ⟨real, Tryd.prog, fun g => g == 31, dsOf (cfgX z), []⟩) (H := ⟨[], [], 6, []⟩) (a := [.c (.int .i64)]) (rs := [.c (.int .i64)]) ⟨rfl, rfl, rfl, rfl, nilT⟩ Q10.ref02_clamp 80 Tryd.func60 rfl (by kernel_rfl) (by kernel_rfl) (by kernel_rfl) (by kernel_rfl) (by kernel_rfl) (by kernel_rfl) (fun t => by kernel_rfl) (fun x => by kernel_rfl)
theorem s_ref02_Fit : FSound (cfgX z) ⟨⟨59, [.agg [.c (.int .i64), .c (.int .i64)]], [.agg [.c (.int .i64), .c (.int .i64)]]⟩, Q10.ref02_Fit⟩ :=
  w_sound (W := ⟨real, Tryd.prog, fun g => g == 31, dsOf (cfgX z), [⟨⟨60, [.c (.int .i64)], [.c (.int .i64)]⟩, Q10.ref02_clamp⟩]⟩) (H := ⟨[], [], 10, []⟩) (a := [.agg [.c (.int .i64), .c (.int .i64)]]) (rs := [.agg [.c (.int .i64), .c (.int .i64)]]) ⟨rfl, rfl, rfl, rfl, (consT s_ref02_clamp nilT)⟩ Q10.ref02_Fit 80 Tryd.func59 rfl (by kernel_rfl) (by kernel_rfl) (by kernel_rfl) (by kernel_rfl) (by kernel_rfl) (by kernel_rfl) (fun t => by kernel_rfl) (fun x => by kernel_rfl)
theorem s_ref02_Tick : FSound (cfgX z) ⟨⟨38, [.agg [.c (.int .i64), .c (.int .i64)], .c (.int .i64)], [.agg [.c (.int .i64), .c (.int .i64)]]⟩, Q10.ref02_Tick⟩ :=
  w_sound (W := ⟨real, Tryd.prog, fun g => g == 31, dsOf (cfgX z), [⟨⟨59, [.agg [.c (.int .i64), .c (.int .i64)]], [.agg [.c (.int .i64), .c (.int .i64)]]⟩, Q10.ref02_Fit⟩, ⟨⟨60, [.c (.int .i64)], [.c (.int .i64)]⟩, Q10.ref02_clamp⟩]⟩) (H := ⟨[], [], 21, []⟩) (a := [.agg [.c (.int .i64), .c (.int .i64)], .c (.int .i64)]) (rs := [.agg [.c (.int .i64), .c (.int .i64)]]) ⟨rfl, rfl, rfl, rfl, (consT s_ref02_Fit (consT s_ref02_clamp nilT))⟩ Q10.ref02_Tick 80 Tryd.func38 rfl (by kernel_rfl) (by kernel_rfl) (by kernel_rfl) (by kernel_rfl) (by kernel_rfl) (by kernel_rfl) (fun t => by kernel_rfl) (fun x => by kernel_rfl)
theorem s_ref09_paths : FSound (cfgX z) ⟨⟨35, [.c (.sl (.cons .str (.cons .bool (.cons .str (.cons (.int .i64) (.one (.int .i64))))))), .c (.sl (.cons .str (.one .str)))], [.c (.sl (.one .str))]⟩, Q10.ref09_paths⟩ :=
  w_sound (W := ⟨real, Tryd.prog, fun g => g == 31, dsOf (cfgX z), []⟩) (H := ⟨[(3, [.val 5 (.c (.sl (.one .str))), .val 6 (.c (.int .i64))], [0, 1]), (10, [.val 8 (.c (.int .i64))], [0, 1, 5, 6, 7])], [], 74, []⟩) (a := [.c (.sl (.cons .str (.cons .bool (.cons .str (.cons (.int .i64) (.one (.int .i64))))))), .c (.sl (.cons .str (.one .str)))]) (rs := [.c (.sl (.one .str))]) ⟨rfl, rfl, rfl, rfl, nilT⟩ Q10.ref09_paths 80 Tryd.func35 rfl (by kernel_rfl) (by kernel_rfl) (by kernel_rfl) (by kernel_rfl) (by kernel_rfl) (by kernel_rfl) (fun t => by kernel_rfl) (fun x => by kernel_rfl)
theorem s_ref09_Scan : FSound (cfgX z) ⟨⟨13, [.c (.sl (.cons .str (.cons .bool (.cons .str (.cons (.int .i64) (.one (.int .i64))))))), .c (.sl (.cons .str (.one .str))), .c (.int .i64)], [.c (.sl (.cons .str (.cons .bool (.cons .str (.cons (.int .i64) (.one (.int .i64))))))), .c (.sl (.one .str)), .c (.int .i64)]⟩, Q10.ref09_Scan⟩ :=
  w_sound (W := ⟨real, Tryd.prog, fun g => g == 31, dsOf (cfgX z), [⟨⟨34, [.c (.sl (.cons .str (.one .str)))], [.c .bool]⟩, Q10.ref04_Right⟩, ⟨⟨18, [.c (.sl (.cons .str (.cons .bool (.cons .str (.cons (.int .i64) (.one (.int .i64)))))))], [.c .bool]⟩, Q10.ref09_Right⟩, ⟨⟨35, [.c (.sl (.cons .str (.cons .bool (.cons .str (.cons (.int .i64) (.one (.int .i64))))))), .c (.sl (.cons .str (.one .str)))], [.c (.sl (.one .str))]⟩, Q10.ref09_paths⟩, ⟨⟨36, [.c (.sl (.cons .str (.one .str))), .c .str], [.c .str, .c .bool]⟩, Q10.ref04_Get⟩, ⟨⟨37, [.c (.sl (.cons .str (.cons .bool (.cons .str (.cons (.int .i64) (.one (.int .i64))))))), .c .str], [.c (.int .i64)]⟩, Q10.ref09_find⟩, ⟨⟨38, [.agg [.c (.int .i64), .c (.int .i64)], .c (.int .i64)], [.agg [.c (.int .i64), .c (.int .i64)]]⟩, Q10.ref02_Tick⟩]⟩) (H := ⟨[(10, [.val 11 (.fr (.cons .str (.cons .bool (.cons .str (.cons (.int .i64) (.one (.int .i64))))))), .val 12 (.fr (.one .str)), .val 13 (.c (.int .i64))], [0, 1, 2, 10])], [], 99, []⟩) (a := [.c (.sl (.cons .str (.cons .bool (.cons .str (.cons (.int .i64) (.one (.int .i64))))))), .c (.sl (.cons .str (.one .str))), .c (.int .i64)]) (rs := [.c (.sl (.cons .str (.cons .bool (.cons .str (.cons (.int .i64) (.one (.int .i64))))))), .c (.sl (.one .str)), .c (.int .i64)]) ⟨rfl, rfl, rfl, rfl, (consT s_ref04_Right (consT s_ref09_Right (consT s_ref09_paths (consT s_ref04_Get (consT s_ref09_find (consT s_ref02_Tick nilT))))))⟩ Q10.ref09_Scan 80 Tryd.func13 rfl (by kernel_rfl) (by kernel_rfl) (by kernel_rfl) (by kernel_rfl) (by kernel_rfl) (by kernel_rfl) (fun t => by kernel_rfl) (fun x => by kernel_rfl)
theorem s_ref09_Same : FSound (cfgX z) ⟨⟨15, [.c (.sl (.cons .str (.cons .bool (.cons .str (.cons (.int .i64) (.one (.int .i64))))))), .c (.sl (.cons .str (.cons .bool (.cons .str (.cons (.int .i64) (.one (.int .i64)))))))], [.c .bool]⟩, Q10.ref09_Same⟩ :=
  w_sound (W := ⟨real, Tryd.prog, fun g => g == 31, dsOf (cfgX z), []⟩) (H := ⟨[(4, [.val 5 (.c (.int .i64))], [0, 1])], [], 26, []⟩) (a := [.c (.sl (.cons .str (.cons .bool (.cons .str (.cons (.int .i64) (.one (.int .i64))))))), .c (.sl (.cons .str (.cons .bool (.cons .str (.cons (.int .i64) (.one (.int .i64)))))))]) (rs := [.c .bool]) ⟨rfl, rfl, rfl, rfl, nilT⟩ Q10.ref09_Same 80 Tryd.func15 rfl (by kernel_rfl) (by kernel_rfl) (by kernel_rfl) (by kernel_rfl) (by kernel_rfl) (by kernel_rfl) (fun t => by kernel_rfl) (fun x => by kernel_rfl)
theorem s_ref04_Same : FSound (cfgX z) ⟨⟨21, [.c (.sl (.cons .str (.one .str))), .c (.sl (.cons .str (.one .str)))], [.c .bool]⟩, Q10.ref04_Same⟩ :=
  w_sound (W := ⟨real, Tryd.prog, fun g => g == 31, dsOf (cfgX z), []⟩) (H := ⟨[(4, [.val 5 (.c (.int .i64))], [0, 1])], [], 26, []⟩) (a := [.c (.sl (.cons .str (.one .str))), .c (.sl (.cons .str (.one .str)))]) (rs := [.c .bool]) ⟨rfl, rfl, rfl, rfl, nilT⟩ Q10.ref04_Same 80 Tryd.func21 rfl (by kernel_rfl) (by kernel_rfl) (by kernel_rfl) (by kernel_rfl) (by kernel_rfl) (by kernel_rfl) (fun t => by kernel_rfl) (fun x => by kernel_rfl)
end Go.Proofs.W.Q9
namespace Go.Proofs.W.Q9
open Go Go.Proofs Go.Proofs.V Go.Proofs.V.R9 Go.Proofs.W
set_option linter.unusedVariables false
set_option linter.unusedSimpArgs false
set_option maxRecDepth 100000
def hF : List HE := [.box 5 [.c (.int .i64)], .box 6 [.fr (.cons .str (.cons .bool (.cons .str (.cons (.int .i64) (.one (.int .i64))))))], .box 7 [.c (.sl (.one .str))], .box 8 [.c (.int .i64)], .box 9 [.fr (.cons .str (.cons .bool (.cons .str (.cons (.int .i64) (.one (.int .i64))))))], .box 10 [.fr (.one .str)]]
def rgF : RG := ⟨0, 1, 21, 22, hF⟩
theorem r5_okF : R5Ok c0 58 rf9 rgF := ⟨r5_ok.run⟩
theorem s_scan_ScanF : FSound cfgS ⟨⟨12, [.c (.sl (.cons .str (.cons .bool (.cons .str (.cons (.int .i64) (.one (.int .i64))))))), .c (.sl (.cons .str (.one .str))), .c (.int .i64)], [.fr (.cons .str (.cons .bool (.cons .str (.cons (.int .i64) (.one (.int .i64)))))), .c (.sl (.one .str)), .c (.int .i64)]⟩, scan_Scan⟩ := by
  have h := rf_fsound (W := ⟨real, Tryd.prog, fun g => g == 31, dsOf c0, [⟨⟨17, [.c (.sl (.cons .str (.cons .bool (.cons .str (.cons (.int .i64) (.one (.int .i64)))))))], [.c .bool]⟩, scan_Right⟩, ⟨⟨27, [.c (.sl (.cons .str (.one .str)))], [.c .bool]⟩, tree_Right⟩, ⟨⟨26, [.agg [.c (.int .i64), .c (.int .i64)]], [.c (.cx .f64)]⟩, clock_Of⟩, ⟨⟨33, [.c (.cx .f64), .c (.int .i64)], [.c (.cx .f64)]⟩, clock_Tick⟩, ⟨⟨32, [.c (.cx .f64)], [.agg [.c (.int .i64), .c (.int .i64)]]⟩, clock_Pair⟩]⟩) (cfg0 := c0) (cfg := cfgS) (H := ⟨[], [], 58, []⟩)
    ⟨rfl, rfl, rfl, rfl, consT s_scan_Right (consT s_tree_Right (consT s_clock_Of (consT s_clock_Tick (consT s_clock_Pair nilT))))⟩ (fn := Tryd.f12) (R := rf9) (g := rgF) (τ := tau9) (IT := itRun (τ := tau9) both_step) (iter := itIter (τ := tau9) both_step)
    (a := [.c (.sl (.cons .str (.cons .bool (.cons .str (.cons (.int .i64) (.one (.int .i64))))))), .c (.sl (.cons .str (.one .str))), .c (.int .i64)]) (rs := [.fr (.cons .str (.cons .bool (.cons .str (.cons (.int .i64) (.one (.int .i64)))))), .c (.sl (.one .str)), .c (.int .i64)])
    scan_Scan 80 (by rw [f9]; rfl) (by kernel_rfl) (by kernel_rfl) (fun t => by rw [f9]; rfl) (by kernel_rfl) rfl rfl r5_okF it_hit (fun x => by kernel_rfl)
  rw [f9] at h
  exact h
end Go.Proofs.W.Q9
