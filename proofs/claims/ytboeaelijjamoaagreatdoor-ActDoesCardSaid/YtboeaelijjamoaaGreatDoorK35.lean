/- The seat of chapter 11: what lies outside of the evaluator; strings.Split. -/
import Derived.Test.YtboeaelijjamoaaGreatDoorProg
import Derived.Test.YtboeaelijjamoaaGreatDoorK23
import Derived.Test.YtboeaelijjamoaaGreatDoorK17
import Derived.KernelRfl
import Derived.Test.YtboeaelijjamoaaGreatDoorK34
namespace Go.Proofs.V.U11
open Go Go.Proofs Go.Proofs.V.E
set_option linter.unusedVariables false
set_option linter.unusedSimpArgs false
set_option maxRecDepth 100000
set_option maxHeartbeats 1000000
def extCompare : List AV → Option AV
  | [.at (.string s), .at (.string t)] => some (I64 (Lib.compareBytes s.data.toList t.data.toList))
  | _ => none
theorem extCompare_sound {P : Program} {g : Nat} {fn : Func} (hf : P.funcs[g]? = some fn) (hname : (fn.name == "runtime.NumGoroutine") = false) (hb : fn.body.isNone = true) (hn : Extern.findNext fn = none) (he : Extern.find fn = some Extern.BytealgCompare.compare) {xs : List AV} {r : AV} (h : extCompare xs = some r) : CSound P g xs [] r [] := by
  unfold extCompare at h
  split at h
  · rename_i s c
    cases h
    refine csound_value (us := [.string s, .string c]) (v := .int .i64 (Lib.compareBytes s.data.toList c.data.toList)) rfl (fun w => ?_)
    rw [run_callFunc_extern hf hname hb hn he]
    have := Lib.run_compareString (P := P) s c w
    rw [show [Value.string s, Value.string c].toArray = #[Value.string s, Value.string c] from rfl, this]
    rfl
  · cases h
def ext11 (f : Nat) : Option (List AV → Option AV) := if f = 99 then some extCount else if f = 101 then some extIndex else if f = 94 then some extCompare else none
def heap11 (f t : Nat) : Bool := f == 80 && t == 35
/-- z: what stands for Do, Paths, Net, Concat. -/
noncomputable def cfgZ (z : Nat → Option (List AV → Option AV)) : Cfg := { P := Tryz.prog, ext := fun f => if f = 7 ∨ f = 16 ∨ f = 13 ∨ f = 30 ∨ f = 25 then z f else ext11 f, eff := fun _ => false, bad := [], heap := heap11, frz := fun f => f == 80 }
variable {z : Nat → Option (List AV → Option AV)}
theorem mixed : (cfgZ z).P.follows .mixedOrders = true := by kernel_rfl
theorem ext_ok (hz : ∀ g s xs r, z g = some s → s xs = some r → CSound Tryz.prog g xs [] r []) : ∀ g s xs r, (cfgZ z).ext g = some s → s xs = some r → CSound (cfgZ z).P g xs [] r [] := by
  intro g s xs r hg hs
  have hg : (if g = 7 ∨ g = 16 ∨ g = 13 ∨ g = 30 ∨ g = 25 then z g else ext11 g) = some s := hg
  by_cases h12 : g = 7 ∨ g = 16 ∨ g = 13 ∨ g = 30 ∨ g = 25
  · rw [if_pos h12] at hg
    exact hz g s xs r hg hs
  rw [if_neg h12] at hg
  unfold ext11 at hg
  split at hg
  · rename_i h; subst h
    cases hg
    exact extCount_sound (P := Tryz.prog) Tryz.func99 (by kernel_rfl) (by kernel_rfl) (by kernel_rfl) (by kernel_rfl) hs
  · split at hg
    · rename_i h; subst h
      cases hg
      exact extIndex_sound (P := Tryz.prog) Tryz.func101 (by kernel_rfl) (by kernel_rfl) (by kernel_rfl) (by kernel_rfl) hs
    · split at hg
      · rename_i h; subst h
        cases hg
        exact extCompare_sound (P := Tryz.prog) Tryz.func94 (by kernel_rfl) (by kernel_rfl) (by kernel_rfl) (by kernel_rfl) hs
      · cases hg
theorem index81 (s : BS) : ∃ m : Int, callQ (cfgZ z) (evK (cfgZ z)) 92 [ST s, ST [47]] = some (I64 m) ∧ m = Lib.indexByte s 47 := by
  have key : ∃ m : Int, callQ (cfgZ z) (evK (cfgZ z)) 100 [ST s, ST [47]] = some (I64 m) ∧ m = Lib.indexByte s 47 := by
    suffices h : ∃ r H', evK (cfgZ z) 100 [ST s, ST [47]] [] = some (r, H') ∧ (∃ m : Int, r = I64 m ∧ m = Lib.indexByte s 47) ∧ H' = [] by
      obtain ⟨r, H', h, ⟨b, rfl, hb⟩, rfl⟩ := h
      exact ⟨b, callQ_of (by kernel_rfl) h, hb⟩
    refine evK_ofE (P := fun r H' => (∃ m : Int, r = I64 m ∧ m = Lib.indexByte s 47) ∧ H' = []) Tryz.func100 rfl (of_decide_eq_true (by kernel_rfl)) (by kernel_rfl) (by kernel_rfl) rfl ?_
    unfold Tryz.f100
    dsimp only
    refine aw_sk 10 (by kernel_rfl) ?_
    refine aw_sk 10 (by kernel_rfl) ?_
    refine aw_seq (aw_block (aw_sk 10 (by kernel_rfl) ?_))
    refine aw_cond (t := ((⟨⟨[47]⟩⟩ : ByteArray).toList == (⟨⟨s⟩⟩ : ByteArray).toList)) (by kernel_rfl) (fun h => ?_) (fun _ => ?_)
    · have hs : s = [47] := by
        have := neS (a := [47]) (b := s)
        rw [h] at this
        exact (by simpa using this.symm : [47] = s).symm
      refine aw_sk 10 (by kernel_rfl) ?_
      refine aw_ret ?_
      exact ⟨.inr rfl, [I64 0], by kernel_rfl, by kernel_rfl, ⟨0, by kernel_rfl, by rw [hs]; decide⟩, by kernel_rfl⟩
    · refine aw_sk 10 (by kernel_rfl) ?_
      refine aw_cond (t := true) (by kernel_rfl) (fun _ => ?_) (fun h => by cases h)
      refine aw_sk 40 (by kernel_rfl) ?_
      refine aw_ret ?_
      exact ⟨.inr rfl, [I64 (Lib.indexByte s 47)], by kernel_rfl, by kernel_rfl, ⟨Lib.indexByte s 47, by kernel_rfl, rfl⟩, by kernel_rfl⟩
  obtain ⟨m, h, hm⟩ := key
  refine ⟨m, callQ_of (by kernel_rfl) ?_, hm⟩
  refine evK_of Tryz.func92 rfl (of_decide_eq_true (by kernel_rfl)) (by kernel_rfl) (by kernel_rfl) rfl ?_
  unfold Tryz.f92
  dsimp only
  refine aw_sk 10 (by kernel_rfl) ?_
  refine aw_sr (ow_k 2 10 (by kernel_rfl) ?_)
  refine ow_callG (k := 100) (first := []) (captured := []) (xs := [ST s, ST [47]]) (r := I64 m) (by kernel_rfl) (by kernel_rfl) (by kernel_rfl) (by kernel_rfl) (by kernel_rfl) (by kernel_rfl) h (by kernel_rfl) (by kernel_rfl) ?_
  refine ow_all 10 (by kernel_rfl) ?_
  refine aw_ret ?_
  exact ⟨.inr rfl, [I64 m], by kernel_rfl, by kernel_rfl, by kernel_rfl, by kernel_rfl⟩
set_option maxHeartbeats 2000000 in
theorem split72 (s : BS) (hs : s.length ≤ 1000000) : ∃ ws : List BS, ws = spl s ∧ evK (cfgZ z) 80 [ST s, ST [47], I64 0, I64 (-1)] [] = some (.slice (ws.map rowS) false .no, []) := by
  have hcl : Lib.countByte s 47 ≤ s.length := List.count_le_length
  suffices h : ∃ r, evK (cfgZ z) 80 [ST s, ST [47], I64 0, I64 (-1)] [] = some (r, []) ∧ (∃ ws : List BS, ws = spl s ∧ r = .slice (ws.map rowS) false .no) by
    obtain ⟨r, h, ws, h1, rfl⟩ := h
    exact ⟨ws, h1, h⟩
  refine evK_ofZE (P := fun r => ∃ ws : List BS, ws = spl s ∧ r = .slice (ws.map rowS) false .no) Tryz.func80 rfl (of_decide_eq_true (by kernel_rfl)) (by kernel_rfl) (by kernel_rfl) rfl ?_
  unfold Tryz.f80
  dsimp only
  refine aw_sk 10 (by kernel_rfl) ?_
  refine aw_assoc (aw_sk 10 (by kernel_rfl) ?_)
  refine aw_sc false (by kernel_rfl) (fun h => by cases h) (fun _ => ?_)
  refine aw_sskip (aw_assoc (aw_sk 10 (by kernel_rfl) ?_))
  refine aw_sc false (by kernel_rfl) (fun h => by cases h) (fun _ => ?_)
  refine aw_sskip (aw_assoc (aw_sk 10 (by kernel_rfl) ?_))
  refine aw_sc true (by kernel_rfl) (fun _ => ?_) (fun h => by cases h)
  refine aw_sk 60 (by kernel_rfl) ?_
  refine aw_sk 10 (by kernel_rfl) ?_
  have hw1 : IntKind.i64.wrap ((Lib.countByte s 47 : Nat) + 1 : Int) = ((Lib.countByte s 47 + 1 : Nat) : Int) := succ64 (by omega)
  have hw2 : IntKind.i64.wrap ((s.length : Nat) + 1 : Int) = ((s.length + 1 : Nat) : Int) := succ64 (by omega)
  refine aw_absE 66 [] [] ((cfgZ z).heap 80) [(0, ST s), (1, ST [47]), (2, I64 0), (3, I64 (Lib.countByte s 47 + 1 : Nat))]
    [(0, ST s), (1, ST [47]), (2, I64 0), (3, I64 (if IntKind.i64.wrap ((s.length : Nat) + 1 : Int) < IntKind.i64.wrap ((Lib.countByte s 47 : Nat) + 1 : Int) then IntKind.i64.wrap ((s.length : Nat) + 1 : Int) else IntKind.i64.wrap ((Lib.countByte s 47 : Nat) + 1 : Int)))]
    (by rw [hw1, hw2, if_neg (by omega)]) rfl (by kernel_rfl) (fun t1 c1 al1 => ?_)
  generalize hN : Lib.countByte s 47 + 1 = N
  have hN0 : N ≠ 0 := by omega
  have hN1 : N ≤ 1000001 := by omega
  refine aw_sr (ow_k 1 10 (by kernel_rfl) ?_)
  refine ow_mk (n := N) (e := 9) (z := [ST []]) (sz := 1) (by_ := 16) hN0 (by omega) (by omega) (by kernel_rfl) (by kernel_rfl) (by kernel_rfl) (by kernel_rfl) (by kernel_rfl) (by kernel_rfl) (by kernel_rfl) (by kernel_rfl) (by kernel_rfl) (by kernel_rfl) (by kernel_rfl) ?_
  refine ow_all 10 (by kernel_rfl) ?_
  refine aw_sk 10 (by kernel_rfl) ?_
  refine aw_sk 10 (by kernel_rfl) ?_
  have hw3 : IntKind.i64.wrap ((N : Nat) - 1 : Int) = ((N - 1 : Nat) : Int) := by rw [wrapI (by omega) (by omega)]; omega
  refine aw_absE 66 [cells82 N []] [[] ++ (List.replicate N [ST []]).flatten] ((cfgZ z).heap 80) [(0, ST s), (1, ST [47]), (2, I64 0), (3, I64 (N - 1 : Nat)), (9, .hs 0 0 N N 1), (10, I64 0)]
    [(0, ST s), (1, ST [47]), (2, I64 0), (3, I64 (IntKind.i64.wrap ((N : Nat) - 1 : Int))), (9, .hs 0 0 N N 1), (10, I64 0)] (by rw [hw3]) (by simp [cells82]) (by kernel_rfl) (fun t2 c2 al2 => ?_)
  refine aw_sforJ (N - 1) (fun i F => ∃ ws s', Is 66 [cells82 N ws] ((cfgZ z).heap 80) [(0, ST s'), (1, ST [47]), (2, I64 0), (3, I64 (N - 1 : Nat)), (9, .hs 0 0 N N 1), (10, I64 (i : Nat))] F ∧ ws.length = i ∧ ws ++ spl s' = spl s ∧ s'.count 47 + i = N - 1 ∧ s'.length ≤ s.length)
    (fun F => ∃ ws s', Is 66 [cells82 N ws] ((cfgZ z).heap 80) [(0, ST s'), (9, .hs 0 0 N N 1), (10, I64 (ws.length : Nat))] F ∧ ws.length < N ∧ ws ++ [s'] = spl s) ?_ ?_ ?_ ?_
  · exact ⟨[], s, is_of (by kernel_rfl), rfl, by simp, by rw [← hN]; rfl, Nat.le_refl _⟩
  · rintro i F hi ⟨ws, s', ⟨t, c, al, rfl⟩, hwl, hspl, hcnt, hslen⟩
    refine aw_assoc (aw_sk 10 (by kernel_rfl) ?_)
    refine aw_sc (decide ((i : Int) < ((N - 1 : Nat) : Int))) (by kernel_rfl) (fun _ => ?_) (fun h => absurd (of_decide_eq_false h) (by omega))
    obtain ⟨m, hm, hmr⟩ := index81 s'
    obtain ⟨hi1, hi2⟩ := spl_idx s'
    rw [← hmr] at hi1 hi2
    have hlt := indexByte_lt s' 47
    rw [← hmr] at hlt
    refine aw_sskip (aw_block (aw_sr (ow_k 2 10 (by kernel_rfl) ?_)))
    refine ow_callG (k := 92) (first := []) (captured := []) (xs := [ST s', ST [47]]) (r := I64 m) (by kernel_rfl) (by kernel_rfl) (by kernel_rfl) (by kernel_rfl) (by kernel_rfl) (by kernel_rfl) hm (by kernel_rfl) (by kernel_rfl) ?_
    refine ow_all 10 (by kernel_rfl) ?_
    refine aw_assoc (aw_sk 10 (by kernel_rfl) ?_)
    refine aw_sc (decide (m < 0)) (by kernel_rfl) (fun h => ?_) (fun h => ?_)
    · refine aw_sexit ?_
      refine ⟨rfl, ws, s', is_at (l' := [(0, ST s'), (9, .hs 0 0 N N 1), (10, I64 (i : Nat))]) (by rw [hwl]) (by kernel_rfl), by omega, ?_⟩
      rw [← (hi1 (of_decide_eq_true h)).1]
      exact hspl
    have hm0 : 0 ≤ m := by have := of_decide_eq_false h; omega
    have hm1 : m < s'.length := by rcases hlt with h | h <;> omega
    obtain ⟨hd1, hd2⟩ := hi2 hm0
    have hsl : s'.length ≤ 1000000 := by omega
    have hwm : IntKind.i64.wrap (m + 0) = m := by rw [wrapI (by omega) (by omega)]; omega
    have hwm1 : IntKind.i64.wrap (m + 1) = m + 1 := wrapI (by omega) (by omega)
    refine aw_sskip (aw_sr (ow_k 6 10 (by kernel_rfl) ?_))
    refine ow_stre (bs := s') (l := 0) (u := IntKind.i64.wrap (m + 0)) (s'.take m.toNat) (by rw [hwm]; simp) (by omega) (by omega) (by omega) (by kernel_rfl) (by kernel_rfl) (by kernel_rfl) (by kernel_rfl) (by kernel_rfl) (by kernel_rfl) ?_
    refine ow_hat (l := 0) (off := 0) (len := N) (cap := N) (sz := 1) (n := (i : Int)) (e := 9) (by omega) (by omega) (by kernel_rfl) (by kernel_rfl) (by kernel_rfl) (by kernel_rfl) (by kernel_rfl) (by kernel_rfl) ?_
    refine ow_hst (l := 0) (off := 0 + (i : Int).toNat * 1) (row := cells82 N ws) (v := ST (s'.take m.toNat)) (by rw [cells_len N ws (by omega)]; simp [AV.cells]; omega) (by kernel_rfl) (by kernel_rfl) (by kernel_rfl) (by kernel_rfl) (by kernel_rfl) (by kernel_rfl) ?_
    refine ow_nil ?_
    refine aw_absE 66 [cells82 N (ws ++ [s'.take m.toNat])] [splice (cells82 N ws) (0 + (i : Int).toNat * 1) [ST (s'.take m.toNat)]] ((cfgZ z).heap 80) [(0, ST s'), (1, ST [47]), (2, I64 0), (3, I64 (N - 1 : Nat)), (9, .hs 0 0 N N 1), (10, I64 (i : Nat)), (11, I64 m)] _ rfl (by
      rw [← cells_set N ws _ (by omega), hwl]; simp) (by kernel_rfl) (fun t3 c3 al3 => ?_)
    refine aw_sr (ow_k 5 10 (by kernel_rfl) ?_)
    refine ow_stre (bs := s') (l := IntKind.i64.wrap (m + 1)) (u := (s'.length : Int)) (s'.drop (m.toNat + 1)) (by rw [hwm1, show (m + 1).toNat = m.toNat + 1 by omega]; exact List.take_of_length_le (by rw [List.length_drop]; omega)) (by omega) (by omega) (by omega) (by kernel_rfl) (by kernel_rfl) (by kernel_rfl) (by kernel_rfl) (by kernel_rfl) (by kernel_rfl) ?_
    refine ow_all 10 (by kernel_rfl) ?_
    refine aw_rk 10 (by kernel_rfl) ?_
    refine ⟨ws ++ [s'.take m.toNat], s'.drop (m.toNat + 1), is_at (l' := [(0, ST (s'.drop (m.toNat + 1))), (1, ST [47]), (2, I64 0), (3, I64 (N - 1 : Nat)), (9, .hs 0 0 N N 1), (10, I64 (IntKind.i64.wrap ((i : Int) + 1)))]) (by rw [succ64 (by omega)]) (by kernel_rfl), by simp [hwl], ?_, ?_, ?_⟩
    · rw [List.append_assoc, List.singleton_append, ← hd1]; exact hspl
    · omega
    · rw [List.length_drop]; omega
  · rintro F ⟨ws, s', ⟨t, c, al, rfl⟩, hwl, hspl, hcnt, hslen⟩
    have hz : spl s' = [s'] := by
      obtain ⟨hi1, hi2⟩ := spl_idx s'
      by_cases hm : Lib.indexByte s' 47 < 0
      · exact (hi1 hm).1
      · have := (hi2 (by omega)).2
        omega
    rw [hz] at hspl
    refine aw_assoc (aw_sk 10 (by kernel_rfl) ?_)
    refine aw_sc (decide (((N - 1 : Nat) : Int) < ((N - 1 : Nat) : Int))) (by kernel_rfl) (fun h => absurd (of_decide_eq_true h) (by omega)) (fun _ => ?_)
    refine aw_sexit ?_
    exact ⟨rfl, ws, s', is_at (l' := [(0, ST s'), (9, .hs 0 0 N N 1), (10, I64 (N - 1 : Nat))]) (by rw [hwl]) (by kernel_rfl), by omega, hspl⟩
  · rintro F ⟨ws, s', ⟨t, c, al, rfl⟩, hwl, hsum⟩
    have hw5 : IntKind.i64.wrap ((ws.length : Nat) + 1 : Int) = ((ws.length + 1 : Nat) : Int) := succ64 (by omega)
    refine aw_sr (ow_k 3 10 (by kernel_rfl) ?_)
    refine ow_hat (l := 0) (off := 0) (len := N) (cap := N) (sz := 1) (n := (ws.length : Int)) (e := 9) (by omega) (by omega) (by kernel_rfl) (by kernel_rfl) (by kernel_rfl) (by kernel_rfl) (by kernel_rfl) (by kernel_rfl) ?_
    refine ow_hst (l := 0) (off := 0 + (ws.length : Int).toNat * 1) (row := cells82 N ws) (v := ST s') (by rw [cells_len N ws (by omega)]; simp [AV.cells]; omega) (by kernel_rfl) (by kernel_rfl) (by kernel_rfl) (by kernel_rfl) (by kernel_rfl) (by kernel_rfl) ?_
    refine ow_nil ?_
    refine aw_absE 66 [cells82 N (ws ++ [s'])] [splice (cells82 N ws) (0 + (ws.length : Int).toNat * 1) [ST s']] ((cfgZ z).heap 80) [(9, .hs 0 0 N N 1), (10, I64 (ws.length : Nat))] _ rfl (by
      rw [← cells_set N ws _ (by omega)]; simp) (by kernel_rfl) (fun t3 c3 al3 => ?_)
    refine aw_sr (ow_k 3 10 (by kernel_rfl) ?_)
    refine ow_hsl (loc := 0) (off := 0) (len := N) (cap := N) (sz := 1) (l := 0) (u := IntKind.i64.wrap ((ws.length : Nat) + 1 : Int)) (e := 9) (by omega) (by omega) (by omega) (by omega) (by omega) (by kernel_rfl) (by kernel_rfl) (by kernel_rfl) (by kernel_rfl) (by kernel_rfl) (by kernel_rfl) (by kernel_rfl) ?_
    refine ow_all 10 (by kernel_rfl) ?_
    refine aw_ret ?_
    refine ⟨.inr rfl, [.hs 0 (0 + (0 : Int).toNat * 1) ((IntKind.i64.wrap ((ws.length : Nat) + 1 : Int)).toNat - (0 : Int).toNat) (N - (0 : Int).toNat) 1], [.slice ((ws ++ [s']).map rowS) false .no], by kernel_rfl, ?_, ?_, ?_⟩
    · refine Eq.trans (congrArg (fun H => freezeA H _) (show _ = [cells82 N (ws ++ [s'])] by kernel_rfl)) ?_
      have hlen : (cells82 N (ws ++ [s'])).length = N := cells_len N _ (by simp; omega)
      rw [hw5]
      simp only [freezeA, freeze1A, Int.toNat_zero, Nat.zero_mul, Nat.add_zero, Nat.sub_zero, Int.toNat_natCast, List.getElem?_cons_zero, Option.bind_some]
      rw [if_neg (by omega)]
      simp only [rowsOf, hlen, Nat.zero_add, Nat.mul_one]
      rw [if_pos (by omega)]
      simp only [Option.map_some, Option.bind_some]
      congr 2
      apply congrArg (fun x => AV.slice x false Own.no)
      apply List.ext_getElem
      · simp
      · intro k h1 h2
        simp at h1
        have hk : k < (cells82 N (ws ++ [s'])).length := by omega
        have hg : (cells82 N (ws ++ [s']))[k] = ST ((ws ++ [s'])[k]'(by simp; omega)) := by
          simp only [cells82]
          rw [List.getElem_append_left (by simp; omega), List.getElem_map]
        simp only [List.getElem_map, List.getElem_range, rowS]
        rw [List.drop_eq_getElem_cons hk]
        simp [hg]
    · simp [AV.free, nohp, rowS]
    · refine ⟨ws ++ [s'], hsum, ?_⟩
      rfl
theorem split69 (s : BS) (hs : s.length ≤ 1000000) : ∃ ws : List BS, ws = spl s ∧ callQ (cfgZ z) (evK (cfgZ z)) 62 [ST s, ST [47]] = some (.slice (ws.map rowS) false .no) := by
  obtain ⟨ws, h1, h3⟩ := split72 s hs
  refine ⟨ws, h1, callQ_of (by kernel_rfl) ?_⟩
  replace h3 := callQ_of (show (cfgZ z).ext 80 = none by kernel_rfl) h3
  refine evK_of Tryz.func62 rfl (of_decide_eq_true (by kernel_rfl)) (by kernel_rfl) (by kernel_rfl) rfl ?_
  unfold Tryz.f62
  dsimp only
  refine aw_sk 10 (by kernel_rfl) ?_
  refine aw_sr (ow_k 2 10 (by kernel_rfl) ?_)
  refine ow_callG (k := 80) (first := []) (captured := []) (xs := [ST s, ST [47], I64 0, I64 (-1)]) (r := .slice (ws.map rowS) false .no) (by kernel_rfl) (by kernel_rfl) (by kernel_rfl) (by kernel_rfl) (by kernel_rfl) (by kernel_rfl) h3 (by kernel_rfl) (by kernel_rfl) ?_
  refine ow_all 10 (by kernel_rfl) ?_
  refine aw_ret ?_
  exact ⟨.inr rfl, [.slice (ws.map rowS) false .no], by kernel_rfl, by kernel_rfl, by kernel_rfl, by kernel_rfl⟩
end Go.Proofs.V.U11
namespace Go.Proofs.W.Q11
open Go Go.Proofs Go.Proofs.V Go.Proofs.V.U11 Go.Proofs.W
set_option linter.unusedVariables false
set_option linter.unusedSimpArgs false
set_option maxRecDepth 100000
variable {z : Nat → Option (List AV → Option AV)}
theorem nilT {cfg : Cfg} : ∀ e ∈ ([] : List Ent), FSound cfg e := fun e h => by cases h
theorem consT {cfg : Cfg} {e : Ent} {l : List Ent} (h : FSound cfg e) (k : ∀ e ∈ l, FSound cfg e) : ∀ e' ∈ e :: l, FSound cfg e' := fun e' he => by
  rcases List.mem_cons.1 he with rfl | he
  · exact h
  · exact k e' he
abbrev reE : RT := .cons .str (.cons .bool (.cons .str (.cons (.int .i64) (.one (.int .i64)))))
theorem args2 {c1 c2 : CT} {x : Tc c1 × Tc c2} {xs : List AV} (h : ArgR [.c c1, .c c2] x xs) : ∃ a1 a2, xs = [a1, a2] ∧ WR Ono g0 (cellW c1 x.1) a1 ∧ WR Ono g0 (cellW c2 x.2) a2 := by
  obtain ⟨ws, hf, hw⟩ := h
  cases hf
  rcases xs with _ | ⟨a1, _ | ⟨a2, _ | ⟨_, _⟩⟩⟩ <;> first | exact hw.elim | exact hw.2.elim | exact hw.2.2.elim | skip
  exact ⟨a1, a2, rfl, hw.1, hw.2.1⟩
theorem s_bytealg_IndexByteString : FSound (cfgZ z) ⟨⟨101, [.c .str, .c (.int .u8)], [.c (.int .i64)]⟩, Q9.bytealg_IndexByteString⟩ := by
  rintro ⟨s, c⟩ y hxy xs ha
  have hxy : Q9.bytealg_IndexByteString (s, c) = some y := hxy
  obtain ⟨a1, a2, rfl, h1, h2⟩ := args2 (c1 := .str) (c2 := .int .u8) ha
  cases h1
  cases h2
  unfold Q9.bytealg_IndexByteString at hxy
  split at hxy
  · cases hxy
    exact ⟨I64 _, rfl, [.int .i64 false _], [I64 _], rfl, rfl, ⟨.int _ _ _, fun e => by cases e⟩, trivial⟩
  · cases hxy
theorem rows_of : ∀ ws : List (List UInt8), All2 (rowR (.one .str)) ws (ws.map E.rowS)
  | [] => trivial
  | w :: ws => ⟨⟨_, rfl, rfl⟩, rows_of ws⟩
theorem s_strings_Split : FSound (cfgZ z) ⟨⟨62, [.c .str, .c .str], [.c (.sl (.one .str))]⟩, Q9.strings_Split⟩ := by
  rintro ⟨s, c⟩ y hxy xs ha
  have hxy : Q9.strings_Split (s, c) = some y := hxy
  obtain ⟨a1, a2, rfl, h1, h2⟩ := args2 (c1 := .str) (c2 := .str) ha
  cases h1
  cases h2
  unfold Q9.strings_Split at hxy
  split at hxy
  · rename_i hc
    obtain ⟨hc, hl⟩ := hc
    have hc : c = [47] := hc
    subst hc
    cases hxy
    obtain ⟨ws, rfl, h⟩ := split69 (z := z) s hl
    exact ⟨_, h, [.sl (.one .str) (E.spl s) .no], [.slice ((E.spl s).map E.rowS) false .no], rfl, rfl, ⟨.sl _ _ _ _ _ _ ⟨rows_of _, fun e => by cases e⟩ rfl, fun e => by cases e⟩, trivial⟩
  · cases hxy
theorem s_bytealg_abigen_runtime_cmpstring : FSound (cfgZ z) ⟨⟨94, [.c .str, .c .str], [.c (.int .i64)]⟩, Q10.bytealg_abigen_runtime_cmpstring⟩ := by
  rintro ⟨s, c⟩ y hxy xs ha
  have hxy : Q10.bytealg_abigen_runtime_cmpstring (s, c) = some y := hxy
  obtain ⟨a1, a2, rfl, h1, h2⟩ := args2 (c1 := .str) (c2 := .str) ha
  cases h1
  cases h2
  unfold Q10.bytealg_abigen_runtime_cmpstring at hxy
  cases hxy
  exact ⟨I64 _, rfl, [.int .i64 false _], [I64 _], rfl, rfl, ⟨.int _ _ _, fun e => by cases e⟩, trivial⟩

theorem s_stringslite_IndexByte : FSound (cfgZ z) ⟨⟨93, [.c .str, .c (.int .u8)], [.c (.int .i64)]⟩, Q9.stringslite_IndexByte⟩ :=
  w_sound (W := ⟨real, Tryz.prog, fun _ => false, dsOf (cfgZ z), [⟨⟨101, [.c .str, .c (.int .u8)], [.c (.int .i64)]⟩, Q9.bytealg_IndexByteString⟩]⟩) (H := ⟨[], [], 8, []⟩) (a := [.c .str, .c (.int .u8)]) (rs := [.c (.int .i64)]) ⟨rfl, rfl, rfl, rfl, (consT s_bytealg_IndexByteString nilT)⟩ Q9.stringslite_IndexByte 80 Tryz.func93 rfl (by kernel_rfl) (by kernel_rfl) (by kernel_rfl) (by kernel_rfl) (by kernel_rfl) (by kernel_rfl) (fun t => by kernel_rfl) (fun x => by kernel_rfl)
theorem s_strings_IndexByte : FSound (cfgZ z) ⟨⟨81, [.c .str, .c (.int .u8)], [.c (.int .i64)]⟩, Q9.strings_IndexByte⟩ :=
  w_sound (W := ⟨real, Tryz.prog, fun _ => false, dsOf (cfgZ z), [⟨⟨93, [.c .str, .c (.int .u8)], [.c (.int .i64)]⟩, Q9.stringslite_IndexByte⟩]⟩) (H := ⟨[], [], 8, []⟩) (a := [.c .str, .c (.int .u8)]) (rs := [.c (.int .i64)]) ⟨rfl, rfl, rfl, rfl, (consT s_stringslite_IndexByte nilT)⟩ Q9.strings_IndexByte 80 Tryz.func81 rfl (by kernel_rfl) (by kernel_rfl) (by kernel_rfl) (by kernel_rfl) (by kernel_rfl) (by kernel_rfl) (fun t => by kernel_rfl) (fun x => by kernel_rfl)
theorem s_path_Name : FSound (cfgZ z) ⟨⟨63, [.c .str], [.c .bool]⟩, Q9.path_Name⟩ :=
  w_sound (W := ⟨real, Tryz.prog, fun _ => false, dsOf (cfgZ z), [⟨⟨81, [.c .str, .c (.int .u8)], [.c (.int .i64)]⟩, Q9.strings_IndexByte⟩]⟩) (H := ⟨[(2, [.val 9 (.c (.int .i64))], [0, 7, 8])], [], 51, []⟩) (a := [.c .str]) (rs := [.c .bool]) ⟨rfl, rfl, rfl, rfl, (consT s_strings_IndexByte nilT)⟩ Q9.path_Name 80 Tryz.func63 rfl (by kernel_rfl) (by kernel_rfl) (by kernel_rfl) (by kernel_rfl) (by kernel_rfl) (by kernel_rfl) (fun t => by kernel_rfl) (fun x => by kernel_rfl)
theorem s_path_Names : FSound (cfgZ z) ⟨⟨49, [.c .str], [.c (.sl (.one .str))]⟩, Q9.path_Names⟩ :=
  w_sound (W := ⟨real, Tryz.prog, fun _ => false, dsOf (cfgZ z), [⟨⟨62, [.c .str, .c .str], [.c (.sl (.one .str))]⟩, Q9.strings_Split⟩, ⟨⟨63, [.c .str], [.c .bool]⟩, Q9.path_Name⟩]⟩) (H := ⟨[(5, [.val 13 (.c (.int .i64))], [3, 11, 12])], [], 22, []⟩) (a := [.c .str]) (rs := [.c (.sl (.one .str))]) ⟨rfl, rfl, rfl, rfl, (consT s_strings_Split (consT s_path_Name nilT))⟩ Q9.path_Names 80 Tryz.func49 rfl (by kernel_rfl) (by kernel_rfl) (by kernel_rfl) (by kernel_rfl) (by kernel_rfl) (by kernel_rfl) (fun t => by kernel_rfl) (fun x => by kernel_rfl)
theorem s_path_Right : FSound (cfgZ z) ⟨⟨35, [.c .str], [.c .bool]⟩, Q9.path_Right⟩ :=
  w_sound (W := ⟨real, Tryz.prog, fun _ => false, dsOf (cfgZ z), [⟨⟨49, [.c .str], [.c (.sl (.one .str))]⟩, Q9.path_Names⟩]⟩) (H := ⟨[], [], 7, []⟩) (a := [.c .str]) (rs := [.c .bool]) ⟨rfl, rfl, rfl, rfl, (consT s_path_Names nilT)⟩ Q9.path_Right 80 Tryz.func35 rfl (by kernel_rfl) (by kernel_rfl) (by kernel_rfl) (by kernel_rfl) (by kernel_rfl) (by kernel_rfl) (fun t => by kernel_rfl) (fun x => by kernel_rfl)
theorem s_stringslite_HasPrefix : FSound (cfgZ z) ⟨⟨61, [.c .str, .c .str], [.c .bool]⟩, Q9.stringslite_HasPrefix⟩ :=
  w_sound (W := ⟨real, Tryz.prog, fun _ => false, dsOf (cfgZ z), []⟩) (H := ⟨[], [], 18, []⟩) (a := [.c .str, .c .str]) (rs := [.c .bool]) ⟨rfl, rfl, rfl, rfl, nilT⟩ Q9.stringslite_HasPrefix 80 Tryz.func61 rfl (by kernel_rfl) (by kernel_rfl) (by kernel_rfl) (by kernel_rfl) (by kernel_rfl) (by kernel_rfl) (fun t => by kernel_rfl) (fun x => by kernel_rfl)
theorem s_strings_HasPrefix : FSound (cfgZ z) ⟨⟨48, [.c .str, .c .str], [.c .bool]⟩, Q9.strings_HasPrefix⟩ :=
  w_sound (W := ⟨real, Tryz.prog, fun _ => false, dsOf (cfgZ z), [⟨⟨61, [.c .str, .c .str], [.c .bool]⟩, Q9.stringslite_HasPrefix⟩]⟩) (H := ⟨[], [], 8, []⟩) (a := [.c .str, .c .str]) (rs := [.c .bool]) ⟨rfl, rfl, rfl, rfl, (consT s_stringslite_HasPrefix nilT)⟩ Q9.strings_HasPrefix 80 Tryz.func48 rfl (by kernel_rfl) (by kernel_rfl) (by kernel_rfl) (by kernel_rfl) (by kernel_rfl) (by kernel_rfl) (fun t => by kernel_rfl) (fun x => by kernel_rfl)
theorem s_path_Under : FSound (cfgZ z) ⟨⟨34, [.c .str, .c .str], [.c .bool]⟩, Q9.path_Under⟩ :=
  w_sound (W := ⟨real, Tryz.prog, fun _ => false, dsOf (cfgZ z), [⟨⟨35, [.c .str], [.c .bool]⟩, Q9.path_Right⟩, ⟨⟨48, [.c .str, .c .str], [.c .bool]⟩, Q9.strings_HasPrefix⟩]⟩) (H := ⟨[], [], 17, []⟩) (a := [.c .str, .c .str]) (rs := [.c .bool]) ⟨rfl, rfl, rfl, rfl, (consT s_path_Right (consT s_strings_HasPrefix nilT))⟩ Q9.path_Under 80 Tryz.func34 rfl (by kernel_rfl) (by kernel_rfl) (by kernel_rfl) (by kernel_rfl) (by kernel_rfl) (by kernel_rfl) (fun t => by kernel_rfl) (fun x => by kernel_rfl)
theorem s_tree_Right_1 : FSound (cfgZ z) ⟨⟨33, [.agg [.c .str, .c .str], .ref [.c .str, .c .str] 0], [.c .bool]⟩, Q9.tree_Right_1⟩ :=
  w_sound (W := ⟨real, Tryz.prog, fun _ => false, dsOf (cfgZ z), [⟨⟨34, [.c .str, .c .str], [.c .bool]⟩, Q9.path_Under⟩]⟩) (H := ⟨[], [], 9, []⟩) (a := [.agg [.c .str, .c .str], .ref [.c .str, .c .str] 0]) (rs := [.c .bool]) ⟨rfl, rfl, rfl, rfl, (consT s_path_Under nilT)⟩ Q9.tree_Right_1 80 Tryz.func33 rfl (by kernel_rfl) (by kernel_rfl) (by kernel_rfl) (by kernel_rfl) (by kernel_rfl) (by kernel_rfl) (fun t => by kernel_rfl) (fun x => by kernel_rfl)
theorem s_slices_IndexFunc_File_tree_Right_1 : FSound (cfgZ z) ⟨⟨50, [.c (.sl (.cons .str (.one .str))), .fn 33 [] [.ref [.c .str, .c .str] 0]], [.c (.int .i64)]⟩, Q9.slices_IndexFunc_File_tree_Right_1⟩ :=
  w_sound (W := ⟨real, Tryz.prog, fun _ => false, dsOf (cfgZ z), [⟨⟨33, [.agg [.c .str, .c .str], .ref [.c .str, .c .str] 0], [.c .bool]⟩, Q9.tree_Right_1⟩]⟩) (H := ⟨[(2, [.val 8 (.c (.int .i64))], [0, 1, 7])], [], 19, []⟩) (a := [.c (.sl (.cons .str (.one .str))), .fn 33 [] [.ref [.c .str, .c .str] 0]]) (rs := [.c (.int .i64)]) ⟨rfl, rfl, rfl, rfl, (consT s_tree_Right_1 nilT)⟩ Q9.slices_IndexFunc_File_tree_Right_1 80 Tryz.func50 rfl (by kernel_rfl) (by kernel_rfl) (by kernel_rfl) (by kernel_rfl) (by kernel_rfl) (by kernel_rfl) (fun t => by kernel_rfl) (fun x => by kernel_rfl)
theorem s_slices_ContainsFunc_File_tree_Right_1 : FSound (cfgZ z) ⟨⟨36, [.c (.sl (.cons .str (.one .str))), .fn 33 [] [.ref [.c .str, .c .str] 0]], [.c .bool]⟩, Q9.slices_ContainsFunc_File_tree_Right_1⟩ :=
  w_sound (W := ⟨real, Tryz.prog, fun _ => false, dsOf (cfgZ z), [⟨⟨50, [.c (.sl (.cons .str (.one .str))), .fn 33 [] [.ref [.c .str, .c .str] 0]], [.c (.int .i64)]⟩, Q9.slices_IndexFunc_File_tree_Right_1⟩]⟩) (H := ⟨[], [], 9, []⟩) (a := [.c (.sl (.cons .str (.one .str))), .fn 33 [] [.ref [.c .str, .c .str] 0]]) (rs := [.c .bool]) ⟨rfl, rfl, rfl, rfl, (consT s_slices_IndexFunc_File_tree_Right_1 nilT)⟩ Q9.slices_ContainsFunc_File_tree_Right_1 80 Tryz.func36 rfl (by kernel_rfl) (by kernel_rfl) (by kernel_rfl) (by kernel_rfl) (by kernel_rfl) (by kernel_rfl) (fun t => by kernel_rfl) (fun x => by kernel_rfl)
theorem s_tree_Right : FSound (cfgZ z) ⟨⟨18, [.c (.sl (.cons .str (.one .str)))], [.c .bool]⟩, Q9.tree_Right⟩ :=
  w_sound (W := ⟨real, Tryz.prog, fun _ => false, dsOf (cfgZ z), [⟨⟨35, [.c .str], [.c .bool]⟩, Q9.path_Right⟩, ⟨⟨36, [.c (.sl (.cons .str (.one .str))), .fn 33 [] [.ref [.c .str, .c .str] 0]], [.c .bool]⟩, Q9.slices_ContainsFunc_File_tree_Right_1⟩]⟩) (H := ⟨[(4, [.val 11 (.c (.int .i64))], [0, 9, 10])], [], 48, []⟩) (a := [.c (.sl (.cons .str (.one .str)))]) (rs := [.c .bool]) ⟨rfl, rfl, rfl, rfl, (consT s_path_Right (consT s_slices_ContainsFunc_File_tree_Right_1 nilT))⟩ Q9.tree_Right 80 Tryz.func18 rfl (by kernel_rfl) (by kernel_rfl) (by kernel_rfl) (by kernel_rfl) (by kernel_rfl) (by kernel_rfl) (fun t => by kernel_rfl) (fun x => by kernel_rfl)
theorem s_tree_Size : FSound (cfgZ z) ⟨⟨22, [.c (.sl (.cons .str (.one .str)))], [.c (.int .i64)]⟩, Q11.tree_Size⟩ :=
  w_sound (W := ⟨real, Tryz.prog, fun _ => false, dsOf (cfgZ z), []⟩) (H := ⟨[(3, [.val 3 (.c (.int .i64)), .val 8 (.c (.int .i64))], [6, 7])], [], 19, []⟩) (a := [.c (.sl (.cons .str (.one .str)))]) (rs := [.c (.int .i64)]) ⟨rfl, rfl, rfl, rfl, nilT⟩ Q11.tree_Size 80 Tryz.func22 rfl (by kernel_rfl) (by kernel_rfl) (by kernel_rfl) (by kernel_rfl) (by kernel_rfl) (by kernel_rfl) (fun t => by kernel_rfl) (fun x => by kernel_rfl)
theorem s_bytealg_CompareString : FSound (cfgZ z) ⟨⟨82, [.c .str, .c .str], [.c (.int .i64)]⟩, Q10.bytealg_CompareString⟩ :=
  w_sound (W := ⟨real, Tryz.prog, fun _ => false, dsOf (cfgZ z), [⟨⟨94, [.c .str, .c .str], [.c (.int .i64)]⟩, Q10.bytealg_abigen_runtime_cmpstring⟩]⟩) (H := ⟨[], [], 8, []⟩) (a := [.c .str, .c .str]) (rs := [.c (.int .i64)]) ⟨rfl, rfl, rfl, rfl, (consT s_bytealg_abigen_runtime_cmpstring nilT)⟩ Q10.bytealg_CompareString 80 Tryz.func82 rfl (by kernel_rfl) (by kernel_rfl) (by kernel_rfl) (by kernel_rfl) (by kernel_rfl) (by kernel_rfl) (fun t => by kernel_rfl) (fun x => by kernel_rfl)
theorem s_strings_Compare : FSound (cfgZ z) ⟨⟨66, [.c .str, .c .str], [.c (.int .i64)]⟩, Q10.strings_Compare⟩ :=
  w_sound (W := ⟨real, Tryz.prog, fun _ => false, dsOf (cfgZ z), [⟨⟨82, [.c .str, .c .str], [.c (.int .i64)]⟩, Q10.bytealg_CompareString⟩]⟩) (H := ⟨[], [], 8, []⟩) (a := [.c .str, .c .str]) (rs := [.c (.int .i64)]) ⟨rfl, rfl, rfl, rfl, (consT s_bytealg_CompareString nilT)⟩ Q10.strings_Compare 80 Tryz.func66 rfl (by kernel_rfl) (by kernel_rfl) (by kernel_rfl) (by kernel_rfl) (by kernel_rfl) (by kernel_rfl) (fun t => by kernel_rfl) (fun x => by kernel_rfl)
theorem s_tree_place_1 : FSound (cfgZ z) ⟨⟨65, [.agg [.c .str, .c .str], .c .str], [.c (.int .i64)]⟩, Q10.tree_place_1⟩ :=
  w_sound (W := ⟨real, Tryz.prog, fun _ => false, dsOf (cfgZ z), [⟨⟨66, [.c .str, .c .str], [.c (.int .i64)]⟩, Q10.strings_Compare⟩]⟩) (H := ⟨[], [], 9, []⟩) (a := [.agg [.c .str, .c .str], .c .str]) (rs := [.c (.int .i64)]) ⟨rfl, rfl, rfl, rfl, (consT s_strings_Compare nilT)⟩ Q10.tree_place_1 80 Tryz.func65 rfl (by kernel_rfl) (by kernel_rfl) (by kernel_rfl) (by kernel_rfl) (by kernel_rfl) (by kernel_rfl) (fun t => by kernel_rfl) (fun x => by kernel_rfl)
theorem s_slices_BinarySearchFunc_string_tree_place_1 : FSound (cfgZ z) ⟨⟨64, [.c (.sl (.cons .str (.one .str))), .c .str, .fn 65 [] []], [.c (.int .i64), .c .bool]⟩, Q10.slices_BinarySearchFunc_string_tree_place_1⟩ :=
  w_sound (W := ⟨real, Tryz.prog, fun _ => false, dsOf (cfgZ z), [⟨⟨65, [.agg [.c .str, .c .str], .c .str], [.c (.int .i64)]⟩, Q10.tree_place_1⟩]⟩) (H := ⟨[(3, [.val 9 (.c (.int .i64)), .val 10 (.c (.int .i64))], [0, 1, 2, 8])], [], 49, []⟩) (a := [.c (.sl (.cons .str (.one .str))), .c .str, .fn 65 [] []]) (rs := [.c (.int .i64), .c .bool]) ⟨rfl, rfl, rfl, rfl, (consT s_tree_place_1 nilT)⟩ Q10.slices_BinarySearchFunc_string_tree_place_1 80 Tryz.func64 rfl (by kernel_rfl) (by kernel_rfl) (by kernel_rfl) (by kernel_rfl) (by kernel_rfl) (by kernel_rfl) (fun t => by kernel_rfl) (fun x => by kernel_rfl)
theorem s_tree_place : FSound (cfgZ z) ⟨⟨51, [.c (.sl (.cons .str (.one .str))), .c .str], [.c (.int .i64), .c .bool]⟩, Q10.tree_place⟩ :=
  w_sound (W := ⟨real, Tryz.prog, fun _ => false, dsOf (cfgZ z), [⟨⟨64, [.c (.sl (.cons .str (.one .str))), .c .str, .fn 65 [] []], [.c (.int .i64), .c .bool]⟩, Q10.slices_BinarySearchFunc_string_tree_place_1⟩]⟩) (H := ⟨[], [], 11, []⟩) (a := [.c (.sl (.cons .str (.one .str))), .c .str]) (rs := [.c (.int .i64), .c .bool]) ⟨rfl, rfl, rfl, rfl, (consT s_slices_BinarySearchFunc_string_tree_place_1 nilT)⟩ Q10.tree_place 80 Tryz.func51 rfl (by kernel_rfl) (by kernel_rfl) (by kernel_rfl) (by kernel_rfl) (by kernel_rfl) (by kernel_rfl) (fun t => by kernel_rfl) (fun x => by kernel_rfl)
theorem s_tree_Find : FSound (cfgZ z) ⟨⟨42, [.c (.sl (.cons .str (.one .str))), .c .str], [.c (.int .i64)]⟩, Q10.tree_Find⟩ :=
  w_sound (W := ⟨real, Tryz.prog, fun _ => false, dsOf (cfgZ z), [⟨⟨51, [.c (.sl (.cons .str (.one .str))), .c .str], [.c (.int .i64), .c .bool]⟩, Q10.tree_place⟩, ⟨⟨18, [.c (.sl (.cons .str (.one .str)))], [.c .bool]⟩, Q9.tree_Right⟩]⟩) (H := ⟨[], [], 19, []⟩) (a := [.c (.sl (.cons .str (.one .str))), .c .str]) (rs := [.c (.int .i64)]) ⟨rfl, rfl, rfl, rfl, (consT s_tree_place (consT s_tree_Right nilT))⟩ Q10.tree_Find 80 Tryz.func42 rfl (by kernel_rfl) (by kernel_rfl) (by kernel_rfl) (by kernel_rfl) (by kernel_rfl) (by kernel_rfl) (fun t => by kernel_rfl) (fun x => by kernel_rfl)
theorem s_tree_Get : FSound (cfgZ z) ⟨⟨27, [.c (.sl (.cons .str (.one .str))), .c .str], [.c .str, .c .bool]⟩, Q10.tree_Get⟩ :=
  w_sound (W := ⟨real, Tryz.prog, fun _ => false, dsOf (cfgZ z), [⟨⟨42, [.c (.sl (.cons .str (.one .str))), .c .str], [.c (.int .i64)]⟩, Q10.tree_Find⟩]⟩) (H := ⟨[], [], 17, []⟩) (a := [.c (.sl (.cons .str (.one .str))), .c .str]) (rs := [.c .str, .c .bool]) ⟨rfl, rfl, rfl, rfl, (consT s_tree_Find nilT)⟩ Q10.tree_Get 80 Tryz.func27 rfl (by kernel_rfl) (by kernel_rfl) (by kernel_rfl) (by kernel_rfl) (by kernel_rfl) (by kernel_rfl) (fun t => by kernel_rfl) (fun x => by kernel_rfl)
theorem s_path_Clash : FSound (cfgZ z) ⟨⟨54, [.c .str, .c .str], [.c .bool]⟩, Q10.path_Clash⟩ :=
  w_sound (W := ⟨real, Tryz.prog, fun _ => false, dsOf (cfgZ z), [⟨⟨34, [.c .str, .c .str], [.c .bool]⟩, Q9.path_Under⟩]⟩) (H := ⟨[], [], 13, []⟩) (a := [.c .str, .c .str]) (rs := [.c .bool]) ⟨rfl, rfl, rfl, rfl, (consT s_path_Under nilT)⟩ Q10.path_Clash 80 Tryz.func54 rfl (by kernel_rfl) (by kernel_rfl) (by kernel_rfl) (by kernel_rfl) (by kernel_rfl) (by kernel_rfl) (fun t => by kernel_rfl) (fun x => by kernel_rfl)
theorem s_law11_few : FSound (cfgZ z) ⟨⟨6, [.c (.sl (.cons .str (.cons .bool (.one .str))))], [.c .bool]⟩, Q11.law11_few⟩ :=
  w_sound (W := ⟨real, Tryz.prog, fun _ => false, dsOf (cfgZ z), []⟩) (H := ⟨[(2, [.val 3 (.c (.int .i64))], [0])], [], 29, []⟩) (a := [.c (.sl (.cons .str (.cons .bool (.one .str))))]) (rs := [.c .bool]) ⟨rfl, rfl, rfl, rfl, nilT⟩ Q11.law11_few 80 Tryz.func6 rfl (by kernel_rfl) (by kernel_rfl) (by kernel_rfl) (by kernel_rfl) (by kernel_rfl) (by kernel_rfl) (fun t => by kernel_rfl) (fun x => by kernel_rfl)
theorem s_law04_Few : FSound (cfgZ z) ⟨⟨5, [.c (.sl (.cons .str (.one .str)))], [.c .bool]⟩, Q9.law04_Few⟩ :=
  w_sound (W := ⟨real, Tryz.prog, fun _ => false, dsOf (cfgZ z), []⟩) (H := ⟨[(4, [.val 3 (.c (.int .i64))], [0])], [], 29, []⟩) (a := [.c (.sl (.cons .str (.one .str)))]) (rs := [.c .bool]) ⟨rfl, rfl, rfl, rfl, nilT⟩ Q9.law04_Few 80 Tryz.func5 rfl (by kernel_rfl) (by kernel_rfl) (by kernel_rfl) (by kernel_rfl) (by kernel_rfl) (by kernel_rfl) (fun t => by kernel_rfl) (fun x => by kernel_rfl)
theorem s_ref10_Acts : FSound (cfgZ z) ⟨⟨10, [.c (.sl (.cons .str (.cons .bool (.one .str)))), .c (.sl (.cons .str (.cons .bool (.one .str))))], [.c .bool]⟩, Q10.ref10_Acts⟩ :=
  w_sound (W := ⟨real, Tryz.prog, fun _ => false, dsOf (cfgZ z), []⟩) (H := ⟨[(4, [.val 5 (.c (.int .i64))], [0, 1])], [], 26, []⟩) (a := [.c (.sl (.cons .str (.cons .bool (.one .str)))), .c (.sl (.cons .str (.cons .bool (.one .str))))]) (rs := [.c .bool]) ⟨rfl, rfl, rfl, rfl, nilT⟩ Q10.ref10_Acts 80 Tryz.func10 rfl (by kernel_rfl) (by kernel_rfl) (by kernel_rfl) (by kernel_rfl) (by kernel_rfl) (by kernel_rfl) (fun t => by kernel_rfl) (fun x => by kernel_rfl)
theorem s_tree_Put_1 : FSound (cfgZ z) ⟨⟨53, [.agg [.c .str, .c .str], .ref [.c .str] 0], [.c .bool]⟩, Q11.tree_Put_1⟩ :=
  w_sound (W := ⟨real, Tryz.prog, fun _ => false, dsOf (cfgZ z), [⟨⟨54, [.c .str, .c .str], [.c .bool]⟩, Q10.path_Clash⟩]⟩) (H := ⟨[], [], 8, []⟩) (a := [.agg [.c .str, .c .str], .ref [.c .str] 0]) (rs := [.c .bool]) ⟨rfl, rfl, rfl, rfl, (consT s_path_Clash nilT)⟩ Q11.tree_Put_1 80 Tryz.func53 rfl (by kernel_rfl) (by kernel_rfl) (by kernel_rfl) (by kernel_rfl) (by kernel_rfl) (by kernel_rfl) (fun t => by kernel_rfl) (fun x => by kernel_rfl)
theorem s_slices_IndexFunc_File_tree_Put_1 : FSound (cfgZ z) ⟨⟨50, [.c (.sl (.cons .str (.one .str))), .fn 53 [] [.ref [.c .str] 0]], [.c (.int .i64)]⟩, Q11.slices_IndexFunc_File_tree_Put_1⟩ :=
  w_sound (W := ⟨real, Tryz.prog, fun _ => false, dsOf (cfgZ z), [⟨⟨53, [.agg [.c .str, .c .str], .ref [.c .str] 0], [.c .bool]⟩, Q11.tree_Put_1⟩]⟩) (H := ⟨[(2, [.val 8 (.c (.int .i64))], [0, 1, 7])], [], 19, []⟩) (a := [.c (.sl (.cons .str (.one .str))), .fn 53 [] [.ref [.c .str] 0]]) (rs := [.c (.int .i64)]) ⟨rfl, rfl, rfl, rfl, (consT s_tree_Put_1 nilT)⟩ Q11.slices_IndexFunc_File_tree_Put_1 80 Tryz.func50 rfl (by kernel_rfl) (by kernel_rfl) (by kernel_rfl) (by kernel_rfl) (by kernel_rfl) (by kernel_rfl) (fun t => by kernel_rfl) (fun x => by kernel_rfl)
theorem s_slices_ContainsFunc_File_tree_Put_1 : FSound (cfgZ z) ⟨⟨36, [.c (.sl (.cons .str (.one .str))), .fn 53 [] [.ref [.c .str] 0]], [.c .bool]⟩, Q11.slices_ContainsFunc_File_tree_Put_1⟩ :=
  w_sound (W := ⟨real, Tryz.prog, fun _ => false, dsOf (cfgZ z), [⟨⟨50, [.c (.sl (.cons .str (.one .str))), .fn 53 [] [.ref [.c .str] 0]], [.c (.int .i64)]⟩, Q11.slices_IndexFunc_File_tree_Put_1⟩]⟩) (H := ⟨[], [], 9, []⟩) (a := [.c (.sl (.cons .str (.one .str))), .fn 53 [] [.ref [.c .str] 0]]) (rs := [.c .bool]) ⟨rfl, rfl, rfl, rfl, (consT s_slices_IndexFunc_File_tree_Put_1 nilT)⟩ Q11.slices_ContainsFunc_File_tree_Put_1 80 Tryz.func36 rfl (by kernel_rfl) (by kernel_rfl) (by kernel_rfl) (by kernel_rfl) (by kernel_rfl) (by kernel_rfl) (fun t => by kernel_rfl) (fun x => by kernel_rfl)
end Go.Proofs.W.Q11
