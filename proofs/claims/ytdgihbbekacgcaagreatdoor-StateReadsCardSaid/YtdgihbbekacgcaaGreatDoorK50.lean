/- The law StateReads, evaluated and walked. -/
import Derived.Test.YtdgihbbekacgcaaGreatDoorK44
import Derived.Test.YtdgihbbekacgcaaGreatDoorK49
namespace Go.Proofs.V.M17
open Go Go.Proofs Go.RowKit Go.Lib Go.Proofs.V Go.Proofs.V.Wire Go.Proofs.V.L17
set_option linter.unusedVariables false
set_option linter.unusedSimpArgs false
set_option maxRecDepth 100000
set_option maxHeartbeats 1000000
theorem same8 {s : Stt} {z y : Nl} (hz : CanZ s z) (hy : CanZ s y) (hm : Go.Proofs.W.Q17.Mild (toQ s)) : callQ cfgR (evK cfgR) 8 [.agg (cellsSt s z), .agg (cellsSt s y)] = some (BO true) := by
  have := W.C.callB Go.Proofs.W.Q17.s_ref17_Same (Go.Proofs.W.Q17.same_self hm) (xs := [.agg (cellsSt s z), .agg (cellsSt s y)]) ⟨[.agg (T17.stW (toQ s)), .agg (T17.stW (toQ s))], rfl, W.wr_agg (wr_st hz), W.wr_agg (wr_st hy), trivial⟩
  show atQ (callQ cfgL (evK cfgL) 8 [.agg (cellsSt s z), .agg (cellsSt s y)]) = _
  rw [this]; rfl
theorem small5R : callQ cfgR (evK cfgR) 5 [] = some (BO true) := by
  show atQ (callQ cfgSm (evK cfgSm) 5 []) = _
  rw [callQ_mono (evN_leK cfgSm 300) small5]; rfl
theorem law4 (b : BS) : evK cfgR 4 [ST b] [] = some (BO true, []) := by
  refine evK_of Tryz.func4 rfl (of_decide_eq_true (by kernel_rfl)) (by kernel_rfl) (by kernel_rfl) rfl ?_
  unfold Tryz.f4
  dsimp only
  refine aw_sk 10 (by kernel_rfl) ?_
  refine aw_sr ?_
  refine ow_callG (k := 5) (first := []) (captured := []) (xs := []) (r := BO true) (by kernel_rfl) (by kernel_rfl) (by kernel_rfl) (by kernel_rfl) (by kernel_rfl) (by kernel_rfl) small5R (by kernel_rfl) (by kernel_rfl) ?_
  refine ow_all 10 (by kernel_rfl) ?_
  refine aw_assoc (aw_sk 10 (by kernel_rfl) ?_)
  refine aw_sc (decide ((60000 : Int) < (b.length : Int))) (by kernel_rfl) (fun _ => ?_) (fun h => ?_)
  · refine aw_assoc (aw_sk 10 (by kernel_rfl) ?_)
    refine aw_sret ?_
    exact ⟨.inr rfl, [BO true], by kernel_rfl, by kernel_rfl, by kernel_rfl, by kernel_rfl⟩
  have hb : b.length ≤ 1000000000 := by
    have := of_decide_eq_false h
    omega
  obtain ⟨s, z, y, er, hz, hy, hm, q1, q2⟩ := read_same b hb
  refine aw_sskip (aw_sr (ow_k 1 10 (by kernel_rfl) ?_))
  refine ow_callG (k := 16) (first := []) (captured := []) (xs := [ST b]) (r := .tup [.agg (cellsSt s z), I64 er]) (by kernel_rfl) (by kernel_rfl) (by kernel_rfl) (by kernel_rfl) (by kernel_rfl) (by kernel_rfl) q1 (by kernel_rfl) (by kernel_rfl) ?_
  refine ow_k 4 10 (by kernel_rfl) ?_
  refine ow_st 4 0 (zeroC) (.agg ((cellsSt s z).map strip1)) (by kernel_rfl) (by kernel_rfl) (by kernel_rfl) (by kernel_rfl) (by kernel_rfl) (by kernel_rfl) (by kernel_rfl) ?_
  refine ow_all 10 (by kernel_rfl) ?_
  refine aw_absB 34 [] (cfgR.heap 4) 4 (cellsSt s z) [(0, ST b), (3, BO true), (5, I64 er)] (Eq.trans (by kernel_rfl) (congrArg (AV.box _) (strip1_st s hz.ok))) (by kernel_rfl) (fun _ _ _ g1 => ?_)
  refine aw_sr (ow_k 1 10 (by kernel_rfl) ?_)
  refine ow_callG (k := 17) (first := []) (captured := []) (xs := [ST b]) (r := .tup [.agg (cellsSt s y), I64 er]) (by kernel_rfl) (by kernel_rfl) (by kernel_rfl) (by kernel_rfl) (by kernel_rfl) (by kernel_rfl) q2 (by kernel_rfl) (by kernel_rfl) ?_
  refine ow_k 4 10 (by kernel_rfl) ?_
  refine ow_st 6 0 (zeroC) (.agg ((cellsSt s y).map strip1)) (by kernel_rfl) (by kernel_rfl) (by kernel_rfl) (by kernel_rfl) (by kernel_rfl) (by kernel_rfl) (by kernel_rfl) ?_
  refine ow_all 10 (by kernel_rfl) ?_
  refine aw_absB 34 [] (cfgR.heap 4) 6 (cellsSt s y) [(3, BO true), (4, .box g1 (cellsSt s z)), (5, I64 er), (7, I64 er)] (Eq.trans (by kernel_rfl) (congrArg (AV.box _) (strip1_st s hy.ok))) (by kernel_rfl) (fun _ _ _ g2 => ?_)
  refine aw_sr (ow_k 2 10 (by kernel_rfl) ?_)
  refine ow_ld 4 0 (cellsSt s z) (.agg (cellsSt s z)) (by kernel_rfl) (by kernel_rfl) (by kernel_rfl) (by kernel_rfl) (by kernel_rfl) (by kernel_rfl) ?_
  refine ow_ld 6 0 (cellsSt s y) (.agg (cellsSt s y)) (by kernel_rfl) (by kernel_rfl) (by kernel_rfl) (by kernel_rfl) (by kernel_rfl) (by kernel_rfl) ?_
  refine ow_callG (k := 8) (first := []) (captured := []) (xs := [.agg (cellsSt s z), .agg (cellsSt s y)]) (r := BO true) (by kernel_rfl) (by kernel_rfl) (by kernel_rfl) (by kernel_rfl) (by kernel_rfl) (by kernel_rfl) (by simp only [List.map_cons, List.map_nil, strip_st _ hz.ok, strip_st _ hy.ok]; exact same8 hz hy hm) (by kernel_rfl) (by kernel_rfl) ?_
  refine ow_k 4 10 (by kernel_rfl) ?_
  refine ow_is (x := (er == er)) (w := true) (by simp) (by kernel_rfl) (by kernel_rfl) (by kernel_rfl) (by kernel_rfl) (by kernel_rfl) ?_
  refine ow_all 10 (by kernel_rfl) ?_
  refine aw_ret ?_
  exact ⟨.inr rfl, [BO true], by kernel_rfl, by kernel_rfl, by kernel_rfl, by kernel_rfl⟩
theorem reads_calls (w : World) (b : BS) : Calls Tryz.prog 4 #[.string ⟨⟨b⟩⟩] w fun e w' => e = .returned (.bool true) ∧ Below w.heap.size w w' := by
  obtain ⟨H', hc⟩ := W.C.csound_of okR (callQ_of (by kernel_rfl) (law4 b))
  refine (T17.calls_csound (vs := [.string ⟨⟨b⟩⟩]) hc Tryz.func4 rfl (by kernel_rfl) (fun x hx => ?_) rfl (fun j x v hx hv => ?_)).mono fun e w' ⟨v, S', E', φ, h1, h2⟩ => ?_
  · simp only [List.mem_singleton] at hx
    subst hx
    exact W.C.noId_at _
  · match j with
    | 0 => cases hx; cases hv; exact .at _
    | j + 1 => simp at hx
  · have hv := h2.rv
    generalize v = q at h1 hv
    cases hv
    exact ⟨h1, bel_below h2.bel⟩
end Go.Proofs.V.M17
