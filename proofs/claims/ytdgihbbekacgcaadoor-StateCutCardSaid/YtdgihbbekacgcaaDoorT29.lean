/- The law StateBack, evaluated. -/
import Derived.Test.YtdgihbbekacgcaaDoorT27
namespace Go.Proofs.V
open Go Go.Proofs Go.Proofs.V.Wire
set_option linter.unusedVariables false
set_option linter.unusedSimpArgs false
set_option maxRecDepth 100000
set_option maxHeartbeats 2000000
theorem bytes_len (s : Stt) (hs : Short s) : (encSt s).length ≤ 100000000 := by
  obtain ⟨a, tr, ar, ch, ow, sh, tu, pe, th, co, wa, ha⟩ := s
  obtain ⟨s1, s2, s3, s4, s5, s6, s7⟩ := hs
  dsimp only at s1 s2 s3 s4 s5 s6 s7
  have e1 := encR_len encFi encFi_len tr s1
  have e2 := encR_len encEn encEn_len ar s2
  have e3 : (encCu ch).length = 16 := rfl
  have e4 := encR_len encN (fun x => by rw [encN_len]; omega) ow s3
  have e5 := encR_len encEn encEn_len sh s4
  have e6 : (encB tu).length = 4 := rfl
  have e7 : (encCu pe).length = 16 := rfl
  have e8 := encR_len encEn encEn_len th s5
  have e9 := encR_len encS (fun x => by have := encS_len x; omega) co (by omega)
  have e10 := encR_len encPu encPu_len wa s7
  have e11 : (encB ha).length = 4 := rfl
  have B0 : (encN a).length = 4 := rfl
  simp only [encSt, List.length_append]
  omega
/-- A piece of code, and what follows, with what is known between. -/
theorem aw_seq_mid {cfg : Cfg} {a b : Code} {F : St} {Q : X → St → Prop} (I : St → Prop) (h : Aw cfg a F (Then I Q)) (k : ∀ F, I F → Aw cfg b F Q) : Aw cfg (.seq a b) F Q :=
  aw_seq (h.mono fun x F' q => by
    cases x with
    | normal => exact k F' q
    | _ => exact q)
theorem read_enc {s : Stt} {z : Nl} (hz : SemZ s z) (hs : Short s) (ht : Tiny s) (hr : RP s z) : ∃ y, SemZ s y ∧ RP s y ∧ callQ cfg17 (evK cfg17) 10 [ST (encSt s)] = some (.tup [.agg (cellsSt s y), I64 0]) := by
  have hok := RP_ok hz.ok hs ht hr
  have hlen : (encSt s).length ≤ 1000000000 := by
    have h := bytes_len s hs
    omega
  obtain ⟨s', y, a', e', hcan, hrd, hcase⟩ := read10 (encSt s) (enc_ne s) hlen
  have hrd' : Rds (encSt s ++ []) cSt.dec s' 0 0 a' e' := by rw [List.append_nil]; exact hrd
  obtain ⟨rfl, he, hl⟩ := rds_enc hok hrd'
  have hy := hcan.sem
  have hry := RP_to hz hy hr
  rcases hcase with ⟨h, _⟩ | ⟨_, hn⟩
  · exact ⟨y, hy, hry, h⟩
  · exact absurd ⟨he, by have := hl.2 rfl; rw [List.append_nil] at this; exact this, hry⟩ hn
theorem back3 (s : Stt) (z : Nl) (hzs : SemZ s z) (b : BS) : evK cfg17 3 [.agg (cellsSt s z), ST b] [] = some (BO true, []) := by
  have hz := hzs.ok
  obtain ⟨b1, f1, g1⟩ := few8 s z hz
  have hsm : callQ cfg17 (evK cfg17) 7 [] = some (BO true) := callQ_at 300 small17
  refine evK_of Tryd.func3 rfl (of_decide_eq_true (by kernel_rfl)) (by kernel_rfl) (by kernel_rfl) rfl ?_
  unfold Tryd.f3
  dsimp only
  refine aw_sk 10 (by kernel_rfl) ?_
  refine aw_absE 73 [] [] (cfg17.heap 3) [(1, ST b), (2, .box 0 (cellsSt s z))] [(1, ST b), (2, .box 0 ((cellsSt s z).map strip1))] (by rw [strip1_st _ hz]) rfl (by kernel_rfl) (fun _ _ _ => ?_)
  refine aw_sr ?_
  refine ow_callG (k := 7) (first := []) (captured := []) (xs := []) (r := BO true) (by kernel_rfl) (by kernel_rfl) (by kernel_rfl) (by kernel_rfl) (by kernel_rfl) (by kernel_rfl) hsm (by kernel_rfl) (by kernel_rfl) ?_
  refine ow_all 10 (by kernel_rfl) ?_
  refine aw_sr (ow_k 1 10 (by kernel_rfl) ?_)
  refine ow_callG (k := 8) (first := []) (captured := []) (xs := [.agg (cellsSt s z)]) (r := BO b1) (by kernel_rfl) (by kernel_rfl) (by kernel_rfl) (by kernel_rfl) (by kernel_rfl) (by kernel_rfl) (by simp only [List.map_cons, List.map_nil, strip_st _ hz]; exact f1) (by kernel_rfl) (by kernel_rfl) ?_
  refine ow_all 10 (by kernel_rfl) ?_
  refine aw_assoc (aw_mid (IsB 73 [] (cfg17.heap 3) 20 (fun v => v = false → (Short s ∧ Tiny s) ∧ b.length ≤ 60000) [(1, ST b), (2, .box 0 (cellsSt s z)), (5, BO true)]) ?_ ?_)
  · cases b1 with
    | false =>
      refine ow_all 10 (by kernel_rfl) ?_
      exact isB_of true (fun h => by cases h) (by kernel_rfl)
    | true =>
      refine ow_all 10 (by kernel_rfl) ?_
      exact isB_of (decide ((60000 : Int) < (b.length : Int))) (fun h => ⟨g1 rfl, by have := of_decide_eq_false h; omega⟩) (by kernel_rfl)
  rintro F ⟨v, hv, _, _, _, rfl⟩
  refine aw_sc v (by kernel_rfl) (fun _ => ?_) (fun h => ?_)
  · refine aw_assoc (aw_sk 10 (by kernel_rfl) ?_)
    refine aw_sret ?_
    exact ⟨.inr rfl, [BO true], by kernel_rfl, by kernel_rfl, by kernel_rfl, by kernel_rfl⟩
  obtain ⟨⟨hsh, hti⟩, hbl0⟩ := hv h
  have hbl : b.length ≤ 1000000000 := by omega
  refine aw_sskip ?_
  obtain ⟨q, hq, gq⟩ := right9 s z hz (H := []) hsh hti
  refine aw_seq_mid (Is 73 [] (cfg17.heap 3) [(1, ST b), (2, .box 0 (cellsSt s z)), (5, BO true)]) ?_ ?_
  · refine aw_sr (ow_k 1 10 (by kernel_rfl) ?_)
    refine ow_callE0 (k := 9) (first := []) (captured := []) (xs := [.agg (cellsSt s z)]) (r := BO q) (by simp only [List.map_cons, List.map_nil, strip_st _ hz]; exact hq) (by kernel_rfl) (by kernel_rfl) (by kernel_rfl) (by kernel_rfl) (by kernel_rfl) (by kernel_rfl) (by kernel_rfl) (by kernel_rfl) ?_
    refine ow_nil ?_
    refine aw_cond (t := q) (by kernel_rfl) (fun hqt => ?_) (fun _ => ?_)
    · obtain ⟨y, hys, hry, hrd⟩ := read_enc hzs hsh hti (gq.1 hqt)
      have hy := hys.ok
      refine aw_sr (ow_k 1 10 (by kernel_rfl) ?_)
      refine ow_callE0 (k := 11) (first := []) (captured := []) (xs := [.agg (cellsSt s z)]) (r := ST (encSt s)) (by simp only [List.map_cons, List.map_nil, strip_st _ hz]; exact bytes11 s z hsh hz) (by kernel_rfl) (by kernel_rfl) (by kernel_rfl) (by kernel_rfl) (by kernel_rfl) (by kernel_rfl) (by kernel_rfl) (by kernel_rfl) ?_
      refine ow_callG (k := 10) (first := []) (captured := []) (xs := [ST (encSt s)]) (r := .tup [.agg (cellsSt s y), I64 0]) (by kernel_rfl) (by kernel_rfl) (by kernel_rfl) (by kernel_rfl) (by kernel_rfl) (by kernel_rfl) hrd (by kernel_rfl) (by kernel_rfl) ?_
      refine ow_k 4 10 (by kernel_rfl) ?_
      refine ow_st 7 0 (zeroC) (.agg ((cellsSt s y).map strip1)) (by kernel_rfl) (by kernel_rfl) (by kernel_rfl) (by kernel_rfl) (by kernel_rfl) (by kernel_rfl) (by kernel_rfl) ?_
      refine ow_all 10 (by kernel_rfl) ?_
      refine aw_absB 73 [] (cfg17.heap 3) 7 (cellsSt s y) [(1, ST b), (2, .box 0 (cellsSt s z)), (5, BO true), (8, I64 0)] (Eq.trans (by kernel_rfl) (congrArg (AV.box _) (strip1_st s hy))) (by kernel_rfl) (fun _ _ _ _ => ?_)
      refine aw_sr (ow_k 3 10 (by kernel_rfl) ?_)
      refine ow_ld 7 0 (cellsSt s y) (.agg (cellsSt s y)) (by kernel_rfl) (by kernel_rfl) (by kernel_rfl) (by kernel_rfl) (by kernel_rfl) (by kernel_rfl) ?_
      refine ow_k 1 10 (by kernel_rfl) ?_
      refine ow_callE0 (k := 12) (first := []) (captured := []) (xs := [.agg (cellsSt s y), .agg (cellsSt s z)]) (r := BO true) (by simp only [List.map_cons, List.map_nil, strip_st _ hz, strip_st _ hy]; exact same12 s s y z hsh hy hz true (by simp)) (by kernel_rfl) (by kernel_rfl) (by kernel_rfl) (by kernel_rfl) (by kernel_rfl) (by kernel_rfl) (by kernel_rfl) (by kernel_rfl) ?_
      refine ow_all 10 (by kernel_rfl) ?_
      refine aw_cond (t := false) (by kernel_rfl) (fun h => by cases h) (fun _ => ?_)
      refine aw_skip ?_
      exact is_of (by kernel_rfl)
    · refine aw_skip ?_
      exact is_of (by kernel_rfl)
  rintro F ⟨_, _, _, rfl⟩
  have hread : (callQ cfg17 (evK cfg17) 10 [ST b] = some (.tup [.agg zeroC, I64 4])) ∨ ∃ s' y, SemZ s' y ∧ RP s' y ∧ Short s' ∧ Tiny s' ∧ b = encSt s' ∧ callQ cfg17 (evK cfg17) 10 [ST b] = some (.tup [.agg (cellsSt s' y), I64 0]) := by
    by_cases hb0 : b = []
    · subst hb0; exact .inl read10e
    · obtain ⟨s', y, a', e', hcan, hrd, ⟨h, rfl, ha, hr⟩ | ⟨h, _⟩⟩ := read10 b hb0 hbl
      · obtain ⟨k1, k2⟩ := rds_good hrd ha
        exact .inr ⟨s', y, hcan.sem, hr, (ok_small k2).1, (ok_small k2).2, k1, h⟩
      · exact .inl h
  rcases hread with hrd | ⟨s', y, hys, hry, hsh', hti', hbe, hrd⟩
  · refine aw_sr (ow_k 1 10 (by kernel_rfl) ?_)
    refine ow_callG (k := 10) (first := []) (captured := []) (xs := [ST b]) (r := .tup [.agg zeroC, I64 4]) (by kernel_rfl) (by kernel_rfl) (by kernel_rfl) (by kernel_rfl) (by kernel_rfl) (by kernel_rfl) hrd (by kernel_rfl) (by kernel_rfl) ?_
    refine ow_k 4 10 (by kernel_rfl) ?_
    refine ow_st 9 0 (zeroC) (.agg zeroC) (by kernel_rfl) (by kernel_rfl) (by kernel_rfl) (by kernel_rfl) (by kernel_rfl) (by kernel_rfl) (by kernel_rfl) ?_
    refine ow_all 10 (by kernel_rfl) ?_
    refine aw_absB 73 [] (cfg17.heap 3) 9 zeroC [(5, BO true), (10, I64 4)] (by kernel_rfl) (by kernel_rfl) (fun _ _ _ _ => ?_)
    refine aw_assoc (aw_sk 10 (by kernel_rfl) ?_)
    refine aw_sc true (by kernel_rfl) (fun _ => ?_) (fun h => by cases h)
    refine aw_assoc (aw_sr (ow_k 7 10 (by kernel_rfl) ?_))
    refine ow_ld 9 1 (zeroC) (nilS) (by kernel_rfl) (by kernel_rfl) (by kernel_rfl) (by kernel_rfl) (by kernel_rfl) (by kernel_rfl) ?_
    refine ow_k 5 10 (by kernel_rfl) ?_
    refine ow_ld 9 2 (zeroC) (nilS) (by kernel_rfl) (by kernel_rfl) (by kernel_rfl) (by kernel_rfl) (by kernel_rfl) (by kernel_rfl) ?_
    refine ow_all 10 (by kernel_rfl) ?_
    refine aw_sret ?_
    exact ⟨.inr rfl, [BO true], by kernel_rfl, by kernel_rfl, by kernel_rfl, by kernel_rfl⟩
  · have hy := hys.ok
    obtain ⟨q', hq', gq'⟩ := right9 s' y hy (H := []) hsh' hti'
    obtain rfl := gq'.2 hry
    refine aw_sr (ow_k 1 10 (by kernel_rfl) ?_)
    refine ow_callG (k := 10) (first := []) (captured := []) (xs := [ST b]) (r := .tup [.agg (cellsSt s' y), I64 0]) (by kernel_rfl) (by kernel_rfl) (by kernel_rfl) (by kernel_rfl) (by kernel_rfl) (by kernel_rfl) hrd (by kernel_rfl) (by kernel_rfl) ?_
    refine ow_k 4 10 (by kernel_rfl) ?_
    refine ow_st 9 0 (zeroC) (.agg ((cellsSt s' y).map strip1)) (by kernel_rfl) (by kernel_rfl) (by kernel_rfl) (by kernel_rfl) (by kernel_rfl) (by kernel_rfl) (by kernel_rfl) ?_
    refine ow_all 10 (by kernel_rfl) ?_
    refine aw_absB 73 [] (cfg17.heap 3) 9 (cellsSt s' y) [(1, ST b), (5, BO true), (10, I64 0)] (Eq.trans (by kernel_rfl) (congrArg (AV.box _) (strip1_st s' hy))) (by kernel_rfl) (fun _ _ _ _ => ?_)
    refine aw_assoc (aw_sk 10 (by kernel_rfl) ?_)
    refine aw_sc false (by kernel_rfl) (fun h => by cases h) (fun _ => ?_)
    refine aw_sskip (aw_sr (ow_k 2 10 (by kernel_rfl) ?_))
    refine ow_ld 9 0 (cellsSt s' y) (.agg (cellsSt s' y)) (by kernel_rfl) (by kernel_rfl) (by kernel_rfl) (by kernel_rfl) (by kernel_rfl) (by kernel_rfl) ?_
    refine ow_callE0 (k := 9) (first := []) (captured := []) (xs := [.agg (cellsSt s' y)]) (r := BO true) (by simp only [List.map_cons, List.map_nil, strip_st _ hy]; exact hq') (by kernel_rfl) (by kernel_rfl) (by kernel_rfl) (by kernel_rfl) (by kernel_rfl) (by kernel_rfl) (by kernel_rfl) (by kernel_rfl) ?_
    refine ow_k 2 10 (by kernel_rfl) ?_
    refine ow_ld 9 0 (cellsSt s' y) (.agg (cellsSt s' y)) (by kernel_rfl) (by kernel_rfl) (by kernel_rfl) (by kernel_rfl) (by kernel_rfl) (by kernel_rfl) ?_
    refine ow_callE0 (k := 11) (first := []) (captured := []) (xs := [.agg (cellsSt s' y)]) (r := ST (encSt s')) (by simp only [List.map_cons, List.map_nil, strip_st _ hy]; exact bytes11 s' y hsh' hy) (by kernel_rfl) (by kernel_rfl) (by kernel_rfl) (by kernel_rfl) (by kernel_rfl) (by kernel_rfl) (by kernel_rfl) (by kernel_rfl) ?_
    refine ow_k 1 10 (by kernel_rfl) ?_
    refine ow_is (x := ((⟨⟨encSt s'⟩⟩ : ByteArray).toList == (⟨⟨b⟩⟩ : ByteArray).toList)) (w := true) (by rw [← beq_toListBytes, beqS, decide_eq_true hbe.symm]) (by kernel_rfl) (by kernel_rfl) (by kernel_rfl) (by kernel_rfl) (by kernel_rfl) ?_
    refine ow_all 10 (by kernel_rfl) ?_
    refine aw_ret ?_
    exact ⟨.inr rfl, [BO true], by kernel_rfl, by kernel_rfl, by kernel_rfl, by kernel_rfl⟩
end Go.Proofs.V
