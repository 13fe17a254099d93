/- The law StateCut, evaluated. -/
import Derived.Test.YtdgihbbekacgcaaDoorT29
namespace Go.Proofs.V
open Go Go.Proofs Go.Proofs.V.Wire
set_option linter.unusedVariables false
set_option linter.unusedSimpArgs false
set_option maxRecDepth 100000
set_option maxHeartbeats 2000000
/-- A right state's bytes, and more behind them, read. -/
theorem read_more {s : Stt} {z : Nl} (hz : SemZ s z) (hs : Short s) (ht : Tiny s) (hr : RP s z) (more : BS) (hm : more.length ≤ 100) : ∃ (cs : List AV) (e : Int), cs.map strip1 = cs ∧ cs.length = 18 ∧ (e = 0 ↔ more = []) ∧ callQ cfg17 (evK cfg17) 10 [ST (encSt s ++ more)] = some (.tup [.agg cs, I64 e]) := by
  have hok := RP_ok hz.ok hs ht hr
  have hlen : (encSt s ++ more).length ≤ 1000000000 := by
    have h := bytes_len s hs
    rw [List.length_append]
    omega
  obtain ⟨s', y, a', e', hcan, hrd, hcase⟩ := read10 (encSt s ++ more) (by simp [enc_ne s]) hlen
  obtain ⟨rfl, he, hl⟩ := rds_enc hok hrd
  have hy := hcan.sem
  have hry := RP_to hz hy hr
  rcases hcase with ⟨h, _, h2, _⟩ | ⟨h, hn⟩
  · exact ⟨_, 0, strip1_st s' hy.ok, rfl, ⟨fun _ => hl.1 h2, fun _ => rfl⟩, h⟩
  · refine ⟨zeroC, 4, by kernel_rfl, rfl, ⟨fun h => absurd h (by decide), fun h => ?_⟩, h⟩
    exact absurd ⟨he, hl.2 h, hry⟩ hn
theorem read_cut {s : Stt} {z : Nl} (hz : SemZ s z) (hs : Short s) (ht : Tiny s) (hr : RP s z) {cut : Nat} (hc : cut < (encSt s).length) : callQ cfg17 (evK cfg17) 10 [ST ((encSt s).take cut)] = some (.tup [.agg zeroC, I64 4]) := by
  have hok := RP_ok hz.ok hs ht hr
  by_cases hb0 : (encSt s).take cut = []
  · rw [hb0]; exact read10e
  · have hlen : ((encSt s).take cut).length ≤ 1000000000 := by
      have h := bytes_len s hs
      rw [List.length_take]
      omega
    obtain ⟨s', y, a', e', hcan, hrd, ⟨h, rfl, ha, _⟩ | ⟨h, _⟩⟩ := read10 _ hb0 hlen
    · obtain ⟨k1, k2⟩ := rds_good hrd ha
      exact (cut_none hok k2 hc k1).elim
    · exact h
theorem cut5 (s : Stt) (z : Nl) (hzs : SemZ s z) (cut : Int) (more : BS) : evK cfg17 5 [.agg (cellsSt s z), I64 cut, ST more] [] = some (BO true, []) := by
  have hz := hzs.ok
  obtain ⟨b1, f1, g1⟩ := few8 s z hz
  have hsm : callQ cfg17 (evK cfg17) 7 [] = some (BO true) := callQ_at 300 small17
  refine evK_of Tryd.func5 rfl (of_decide_eq_true (by kernel_rfl)) (by kernel_rfl) (by kernel_rfl) rfl ?_
  unfold Tryd.f5
  dsimp only
  refine aw_sk 10 (by kernel_rfl) ?_
  refine aw_absE 65 [] [] (cfg17.heap 5) [(1, I64 cut), (2, ST more), (3, .box 0 (cellsSt s z))] [(1, I64 cut), (2, ST more), (3, .box 0 ((cellsSt s z).map strip1))] (by rw [strip1_st _ hz]) rfl (by kernel_rfl) (fun _ _ _ => ?_)
  refine aw_sr ?_
  refine ow_callG (k := 7) (first := []) (captured := []) (xs := []) (r := BO true) (by kernel_rfl) (by kernel_rfl) (by kernel_rfl) (by kernel_rfl) (by kernel_rfl) (by kernel_rfl) hsm (by kernel_rfl) (by kernel_rfl) ?_
  refine ow_all 10 (by kernel_rfl) ?_
  refine aw_sr (ow_k 1 10 (by kernel_rfl) ?_)
  refine ow_callG (k := 8) (first := []) (captured := []) (xs := [.agg (cellsSt s z)]) (r := BO b1) (by kernel_rfl) (by kernel_rfl) (by kernel_rfl) (by kernel_rfl) (by kernel_rfl) (by kernel_rfl) (by simp only [List.map_cons, List.map_nil, strip_st _ hz]; exact f1) (by kernel_rfl) (by kernel_rfl) ?_
  refine ow_all 10 (by kernel_rfl) ?_
  refine aw_assoc (aw_mid (IsB 65 [] (cfg17.heap 5) 28 (fun v => v = false → Short s ∧ Tiny s ∧ RP s z ∧ more.length ≤ 100) [(1, I64 cut), (2, ST more), (3, .box 0 (cellsSt s z)), (7, BO true)]) ?_ ?_)
  · cases b1 with
    | false =>
      refine ow_all 10 (by kernel_rfl) ?_
      exact isB_of true (fun h => by cases h) (by kernel_rfl)
    | true =>
      obtain ⟨q, hq, gq⟩ := right9 s z hz (H := []) (g1 rfl).1 (g1 rfl).2
      refine ow_k 4 10 (by kernel_rfl) ?_
      refine ow_callE0 (k := 9) (first := []) (captured := []) (xs := [.agg (cellsSt s z)]) (r := BO q) (by simp only [List.map_cons, List.map_nil, strip_st _ hz]; exact hq) (by kernel_rfl) (by kernel_rfl) (by kernel_rfl) (by kernel_rfl) (by kernel_rfl) (by kernel_rfl) (by kernel_rfl) (by kernel_rfl) ?_
      cases q with
      | false =>
        refine ow_all 10 (by kernel_rfl) ?_
        exact isB_of true (fun h => by cases h) (by kernel_rfl)
      | true =>
        refine ow_all 10 (by kernel_rfl) ?_
        exact isB_of (decide ((100 : Int) < (more.length : Int))) (fun h => ⟨(g1 rfl).1, (g1 rfl).2, gq.1 rfl, by have := of_decide_eq_false h; omega⟩) (by kernel_rfl)
  rintro F ⟨v, hv, _, _, _, rfl⟩
  refine aw_sc v (by kernel_rfl) (fun _ => ?_) (fun h => ?_)
  · refine aw_assoc (aw_sk 10 (by kernel_rfl) ?_)
    refine aw_sret ?_
    exact ⟨.inr rfl, [BO true], by kernel_rfl, by kernel_rfl, by kernel_rfl, by kernel_rfl⟩
  obtain ⟨hsh, hti, hrp, hm⟩ := hv h
  have hlen := bytes_len s hsh
  obtain ⟨cs, e, hcs, hcl, he, hrd⟩ := read_more hzs hsh hti hrp more hm
  refine aw_sskip (aw_sr (ow_k 1 10 (by kernel_rfl) ?_))
  refine ow_callE0 (k := 11) (first := []) (captured := []) (xs := [.agg (cellsSt s z)]) (r := ST (encSt s)) (by simp only [List.map_cons, List.map_nil, strip_st _ hz]; exact bytes11 s z hsh hz) (by kernel_rfl) (by kernel_rfl) (by kernel_rfl) (by kernel_rfl) (by kernel_rfl) (by kernel_rfl) (by kernel_rfl) (by kernel_rfl) ?_
  refine ow_all 10 (by kernel_rfl) ?_
  refine aw_abs 65 [] (cfg17.heap 5) [(1, I64 cut), (2, ST more), (7, BO true), (9, ST (encSt s))] (by kernel_rfl) (fun _ _ _ => ?_)
  obtain ⟨x0, r0, rfl, k0⟩ := cons_of hcl
  obtain ⟨x1, r1, rfl, k1⟩ := cons_of k0
  obtain ⟨x2, r2, rfl, k2⟩ := cons_of k1
  obtain ⟨x3, r3, rfl, k3⟩ := cons_of k2
  obtain ⟨x4, r4, rfl, k4⟩ := cons_of k3
  obtain ⟨x5, r5, rfl, k5⟩ := cons_of k4
  obtain ⟨x6, r6, rfl, k6⟩ := cons_of k5
  obtain ⟨x7, r7, rfl, k7⟩ := cons_of k6
  obtain ⟨x8, r8, rfl, k8⟩ := cons_of k7
  obtain ⟨x9, r9, rfl, k9⟩ := cons_of k8
  obtain ⟨x10, r10, rfl, k10⟩ := cons_of k9
  obtain ⟨x11, r11, rfl, k11⟩ := cons_of k10
  obtain ⟨x12, r12, rfl, k12⟩ := cons_of k11
  obtain ⟨x13, r13, rfl, k13⟩ := cons_of k12
  obtain ⟨x14, r14, rfl, k14⟩ := cons_of k13
  obtain ⟨x15, r15, rfl, k15⟩ := cons_of k14
  obtain ⟨x16, r16, rfl, k16⟩ := cons_of k15
  obtain ⟨x17, r17, rfl, k17⟩ := cons_of k16
  obtain rfl := nil_of k17
  refine aw_sr (ow_k 2 10 (by kernel_rfl) ?_)
  refine ow_cat (a := encSt s) (b := more) (by omega) (by kernel_rfl) (by kernel_rfl) (by kernel_rfl) (by kernel_rfl) ?_
  refine ow_callG (k := 10) (first := []) (captured := []) (xs := [ST (encSt s ++ more)]) (r := .tup [.agg [x0, x1, x2, x3, x4, x5, x6, x7, x8, x9, x10, x11, x12, x13, x14, x15, x16, x17], I64 e]) (by kernel_rfl) (by kernel_rfl) (by kernel_rfl) (by kernel_rfl) (by kernel_rfl) (by kernel_rfl) hrd (by kernel_rfl) (by kernel_rfl) ?_
  refine ow_k 4 10 (by kernel_rfl) ?_
  refine ow_st 10 0 (zeroC) (.agg (([x0, x1, x2, x3, x4, x5, x6, x7, x8, x9, x10, x11, x12, x13, x14, x15, x16, x17] : List AV).map strip1)) (by kernel_rfl) (by kernel_rfl) (by kernel_rfl) (by kernel_rfl) (by kernel_rfl) (by kernel_rfl) (by kernel_rfl) ?_
  refine ow_all 10 (by kernel_rfl) ?_
  refine aw_abs 65 [] (cfg17.heap 5) [(1, I64 cut), (2, ST more), (7, BO true), (9, ST (encSt s)), (11, I64 e)] (by kernel_rfl) (fun _ _ _ => ?_)
  refine aw_assoc (aw_mid (Is 65 [] (cfg17.heap 5) [(1, I64 cut), (7, BO true), (9, ST (encSt s)), (43, BO false)]) ?_ ?_)
  · refine ow_k 1 10 (by kernel_rfl) ?_
    by_cases hmo : more = []
    · refine ow_is (x := (e == 0)) (w := true) (by simp [he, hmo]) (by kernel_rfl) (by kernel_rfl) (by kernel_rfl) (by kernel_rfl) (by kernel_rfl) ?_
      refine ow_k 1 10 (by kernel_rfl) ?_
      refine ow_is (x := ((⟨⟨more⟩⟩ : ByteArray).toList == (⟨⟨[]⟩⟩ : ByteArray).toList)) (w := true) (by rw [← beq_toListBytes, beqS]; simp [hmo]) (by kernel_rfl) (by kernel_rfl) (by kernel_rfl) (by kernel_rfl) (by kernel_rfl) ?_
      refine ow_all 10 (by kernel_rfl) ?_
      exact is_of (by kernel_rfl)
    · refine ow_is (x := (e == 0)) (w := false) (by simp [he, hmo]) (by kernel_rfl) (by kernel_rfl) (by kernel_rfl) (by kernel_rfl) (by kernel_rfl) ?_
      refine ow_k 1 10 (by kernel_rfl) ?_
      refine ow_is (x := ((⟨⟨more⟩⟩ : ByteArray).toList == (⟨⟨[]⟩⟩ : ByteArray).toList)) (w := false) (by rw [← beq_toListBytes, beqS]; simp [hmo]) (by kernel_rfl) (by kernel_rfl) (by kernel_rfl) (by kernel_rfl) (by kernel_rfl) ?_
      refine ow_all 10 (by kernel_rfl) ?_
      exact is_of (by kernel_rfl)
  rintro F ⟨_, _, _, rfl⟩
  refine aw_sc false (by kernel_rfl) (fun h => by cases h) (fun _ => ?_)
  refine aw_sskip (aw_assoc (aw_mid (IsB 65 [] (cfg17.heap 5) 51 (fun v => v = false → 0 ≤ cut ∧ cut < ((encSt s).length : Int)) [(1, I64 cut), (7, BO true), (9, ST (encSt s))]) ?_ ?_))
  · refine ow_k 1 10 (by kernel_rfl) ?_
    cases hA : decide (cut < 0) with
    | true =>
      refine ow_is (x := decide (cut < 0)) (w := true) hA (by kernel_rfl) (by kernel_rfl) (by kernel_rfl) (by kernel_rfl) (by kernel_rfl) ?_
      refine ow_all 10 (by kernel_rfl) ?_
      exact isB_of true (fun h => by cases h) (by kernel_rfl)
    | false =>
      refine ow_is (x := decide (cut < 0)) (w := false) hA (by kernel_rfl) (by kernel_rfl) (by kernel_rfl) (by kernel_rfl) (by kernel_rfl) ?_
      refine ow_all 10 (by kernel_rfl) ?_
      exact isB_of (decide (((encSt s).length : Int) ≤ cut)) (fun h => by have := of_decide_eq_false hA; have := of_decide_eq_false h; omega) (by kernel_rfl)
  rintro F ⟨v, hv, _, _, _, rfl⟩
  refine aw_sc v (by kernel_rfl) (fun _ => ?_) (fun h => ?_)
  · refine aw_assoc (aw_sk 10 (by kernel_rfl) ?_)
    refine aw_sret ?_
    exact ⟨.inr rfl, [BO true], by kernel_rfl, by kernel_rfl, by kernel_rfl, by kernel_rfl⟩
  obtain ⟨hc0, hc1⟩ := hv h
  have hrc := read_cut hzs hsh hti hrp (cut := cut.toNat) (by omega)
  refine aw_sskip (aw_sr (ow_k 2 10 (by kernel_rfl) ?_))
  refine ow_stre (bs := encSt s) (l := 0) (u := cut) ((encSt s).take cut.toNat) (by simp) (by omega) (by omega) (by omega) (by kernel_rfl) (by kernel_rfl) (by kernel_rfl) (by kernel_rfl) (by kernel_rfl) (by kernel_rfl) ?_
  refine ow_callG (k := 10) (first := []) (captured := []) (xs := [ST ((encSt s).take cut.toNat)]) (r := .tup [.agg zeroC, I64 4]) (by kernel_rfl) (by kernel_rfl) (by kernel_rfl) (by kernel_rfl) (by kernel_rfl) (by kernel_rfl) hrc (by kernel_rfl) (by kernel_rfl) ?_
  refine ow_k 4 10 (by kernel_rfl) ?_
  refine ow_st 12 0 (zeroC) (.agg zeroC) (by kernel_rfl) (by kernel_rfl) (by kernel_rfl) (by kernel_rfl) (by kernel_rfl) (by kernel_rfl) (by kernel_rfl) ?_
  refine ow_all 10 (by kernel_rfl) ?_
  refine aw_sk 10 (by kernel_rfl) ?_
  refine aw_ret ?_
  exact ⟨.inr rfl, [BO true], by kernel_rfl, by kernel_rfl, by kernel_rfl, by kernel_rfl⟩
end Go.Proofs.V
