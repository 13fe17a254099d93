/- ReconTurned, ReconThree: plain laws. -/
import Derived.Test.YtckammfgogiplaaGreatDoorK39
import Derived.Test.YtckammfgogiplaaGreatDoorK40
namespace Go.Proofs.W.Q10
open Go Go.Proofs.V Go.Proofs.W.Q9
set_option linter.unusedVariables false
set_option linter.unusedSimpArgs false
theorem come_up {r x : En} (hp : r.1 = x.1) (hc : x.2.2.2.1 ≤ r.2.2.2.1 ∧ x.2.2.2.2 ≤ r.2.2.2.2) (hv : ltC x.2.2.2 r.2.2.2 ∨ valV r = valV x) : comeP r x = (r, false) := by
  have h : (comeP r x).2 = false := come_iff.2 (by rcases hv with h | h; exact .inr (.inl h); exact .inr (.inr h))
  have h1 := come_nc hp h
  rw [if_neg (by unfold ltC; omega)] at h1
  have hj : joinC r.2.2.2 x.2.2.2 = r.2.2.2 := by
    unfold joinC
    refine Prod.ext ?_ ?_ <;> (dsimp only; omega)
  rw [hj] at h1
  refine Prod.ext ?_ h
  rw [h1]; rfl
/-- What came of two, against one of them. -/
theorem come_abs {x y : En} (hp : x.1 = y.1) : (comeP (comeP x y).1 y).1 = (comeP x y).1 ∧ (comeP (comeP x y).1 y).2 = (comeP x y).2 ∧ comeP (comeP x y).1 x = ((comeP x y).1, false) := by
  cases h : (comeP x y).2 with
  | true => rw [come_conf h]; exact ⟨come_conf h, h, come_self x⟩
  | false =>
    have hn := come_nc hp h
    have hi := come_iff.1 h
    obtain ⟨r, hr⟩ : ∃ r, r = (comeP x y).1 := ⟨_, rfl⟩
    rw [← hr] at hn ⊢
    have r1 : r.1 = x.1 := by rw [hn]
    have rc : r.2.2.2 = joinC x.2.2.2 y.2.2.2 := by rw [hn]
    have rv : valV r = if ltC x.2.2.2 y.2.2.2 then valV y else valV x := by rw [hn]; rfl
    have c1 : r.2.2.2.1 = max x.2.2.2.1 y.2.2.2.1 := by rw [rc]; rfl
    have c2 : r.2.2.2.2 = max x.2.2.2.2 y.2.2.2.2 := by rw [rc]; rfl
    have ky : comeP r y = (r, false) := by
      refine come_up (r1.trans hp) (by omega) ?_
      by_cases g : ltC x.2.2.2 y.2.2.2
      · rw [if_pos g] at rv; exact .inr rv
      · rw [if_neg g] at rv
        rcases hi with k | k | k
        · exact absurd k g
        · exact .inl (by unfold ltC at k ⊢; omega)
        · exact .inr (rv.trans k)
    have kx : comeP r x = (r, false) := by
      refine come_up r1 (by omega) ?_
      by_cases g : ltC x.2.2.2 y.2.2.2
      · exact .inl (by unfold ltC at g ⊢; omega)
      · rw [if_neg g] at rv; exact .inr rv
    exact ⟨by rw [ky], by rw [ky], kx⟩
theorem getL_path {a : List En} {q : List UInt8} {e : En} (h : getL a q = some e) : e.1 = q := (getL_some h).2
theorem mrg_abs_r (a b : List En) : mrg (mrg a b) b = mrg a b := by
  refine asc_ext (asc_mrg _ _) (asc_mrg _ _) fun q => ?_
  rw [getL_mrg (mrg a b) b, getL_mrg]
  cases h1 : getL a q with
  | none =>
    cases h2 : getL b q with
    | none => rfl
    | some y => simp [joinO, come_self]
  | some x =>
    cases h2 : getL b q with
    | none => rfl
    | some y => simp [joinO, (come_abs ((getL_path h1).trans (getL_path h2).symm)).1]
theorem mrg_abs_l (a b : List En) : mrg (mrg a b) a = mrg a b := by
  refine asc_ext (asc_mrg _ _) (asc_mrg _ _) fun q => ?_
  rw [getL_mrg (mrg a b) a, getL_mrg]
  cases h1 : getL a q with
  | none =>
    cases h2 : getL b q with
    | none => rfl
    | some y => rfl
  | some x =>
    cases h2 : getL b q with
    | none => simp [joinO, come_self]
    | some y => simp [joinO, (come_abs ((getL_path h1).trans (getL_path h2).symm)).2.2]
theorem cnf_abs_r (a b : List En) : cnf (mrg a b) b = cnf a b := by
  refine up_eq (up_cnf _ _) (up_cnf _ _) fun q => ?_
  rw [mem_cnf, mem_cnf]
  constructor
  · rintro ⟨z, y, h1, h2, hc⟩
    rw [getL_mrg, h2] at h1
    cases h3 : getL a q with
    | none => rw [h3] at h1; cases h1; rw [come_self] at hc; cases hc
    | some x =>
      rw [h3] at h1
      have : (comeP x y).1 = z := by simpa [joinO] using h1
      rw [← this, (come_abs ((getL_path h3).trans (getL_path h2).symm)).2.1] at hc
      exact ⟨x, y, rfl, h2, hc⟩
  · rintro ⟨x, y, h1, h2, hc⟩
    refine ⟨(comeP x y).1, y, ?_, h2, ?_⟩
    · rw [getL_mrg, h1, h2]; rfl
    · rw [(come_abs ((getL_path h1).trans (getL_path h2).symm)).2.1]; exact hc
theorem cnf_abs_l (a b : List En) : cnf (mrg a b) a = [] := by
  refine cnf_nil fun q z x h1 h2 => ?_
  rw [getL_mrg, h2] at h1
  cases h3 : getL b q with
  | none => rw [h3] at h1; cases h1; rw [come_self]
  | some y =>
    rw [h3] at h1
    have : (comeP x y).1 = z := by simpa [joinO] using h1
    rw [← this, (come_abs ((getL_path h2).trans (getL_path h3).symm)).2.2]
theorem keys_comm (a b : List En) : keysL a b = keysL b a := up_eq (up_keys a b) (up_keys b a) fun q => by rw [mem_keys, mem_keys]; exact Or.comm
theorem cnf_comm (a b : List En) : cnf a b = cnf b a := by
  refine up_eq (up_cnf _ _) (up_cnf _ _) fun q => ?_
  rw [mem_cnf, mem_cnf]
  constructor
  · rintro ⟨x, y, h1, h2, hc⟩
    exact ⟨y, x, h2, h1, by rw [← (come_comm ((getL_path h1).trans (getL_path h2).symm)).1]; exact hc⟩
  · rintro ⟨x, y, h1, h2, hc⟩
    exact ⟨y, x, h2, h1, by rw [← (come_comm ((getL_path h1).trans (getL_path h2).symm)).1]; exact hc⟩
theorem getL_comm {a b : List En} {q : List UInt8} (h : q ∉ cnf a b) : getL (mrg a b) q = getL (mrg b a) q := by
  rw [getL_mrg, getL_mrg]
  rw [mem_cnf] at h
  cases h1 : getL a q with
  | none => cases h2 : getL b q <;> rfl
  | some x =>
    cases h2 : getL b q with
    | none => rfl
    | some y =>
      have hc : (comeP x y).2 = false := by
        cases k : (comeP x y).2 with
        | false => rfl
        | true => exact absurd ⟨x, y, h1, h2, k⟩ h
      have := (come_comm ((getL_path h1).trans (getL_path h2).symm)).2 hc
      simp [joinO, this]
theorem has_ok {l : List (List UInt8)} {q : List UInt8} (hl : l.length < 1000000000) : law10_has (l, q) = some (l.any fun x => x == q) := by
  unfold law10_has
  have := fixS_idx (R := Bool) (step := fun again1 s2 => if decide (s2 < (l.length : Int)) = true then ixL l s2 fun x3 => if (x3 == q) = true then some true else again1 (IntKind.wrap .i64 (s2 + 1)) else some false) l.length (fun i => some ((l.drop i).any fun x => x == q)) (by omega)
    (fun again => by simp) (fun i hi again ha => by
      rw [if_pos (by simp; omega), ixL_nat hi, wrap_succ (by omega), List.drop_eq_getElem_cons hi, List.any_cons]
      split
      · rename_i h; rw [h]; rfl
      · rename_i h
        have h : (l[i] == q) = false := by simpa using h
        rw [ha, h]; rfl)
  simpa using this
theorem has_mem {l : List (List UInt8)} {q : List UInt8} (hl : l.length < 1000000000) {b : Bool} (h : b = true ↔ q ∈ l) : law10_has (l, q) = some b := by
  rw [has_ok hl]
  congr 1
  cases b with
  | true =>
    rw [List.any_eq_true]
    exact ⟨q, h.1 rfl, by simp⟩
  | false =>
    rw [List.any_eq_false]
    intro x hx
    simp only [beq_iff_eq]
    rintro rfl
    have := h.2 hx
    cases this
theorem cnf_len (a b : List En) (ha : Mid a) (hb : Mid b) : (cnf a b).length ≤ 128 := by
  have h1 := keys_len a b
  have h2 := ha.n
  have h3 := hb.n
  unfold cnf
  have := List.length_filter_le (fun q => (pick a b q).2) (keysL a b)
  omega
theorem mrg_len (a b : List En) (ha : Mid a) (hb : Mid b) : (mrg a b).length ≤ 128 := by
  have h1 := keys_len a b
  have h2 := ha.n
  have h3 := hb.n
  unfold mrg
  rw [List.length_map]
  omega
theorem turned_ok (x : List En × List En) : law10_ReconTurned x = some true := by
  obtain ⟨a, b⟩ := x
  unfold law10_ReconTurned
  dsimp only
  rw [small_ok, Option.bind_some, few9_ok, Option.bind_some, few9_ok, Option.bind_some]
  cases hf : (decide (a.length ≤ 60) && a.all okEn) with
  | false => rfl
  | true =>
  rw [if_neg (by simp)]
  cases hg : (decide (b.length ≤ 60) && b.all okEn) with
  | false => rfl
  | true =>
  rw [if_neg (by simp)]
  have ma := (few_small hf).mid
  have mb := (few_small hg).mid
  rcases merge_all ma mb with ⟨hno, h1⟩ | ⟨ra, rb, hm, h1⟩ | ⟨ra, rb, hm, h1⟩
  · rcases merge_all mb ma with ⟨hno', h2⟩ | ⟨rb, ra, hm', h2⟩ | ⟨rb, ra, hm', h2⟩
    · rw [h1, h2]; rfl
    · exact absurd ⟨right_back ra, right_back rb⟩ hno
    · exact absurd ⟨right_back ra, right_back rb⟩ hno
  · rcases merge_all mb ma with ⟨hno', h2⟩ | ⟨_, _, hm', h2⟩ | ⟨_, _, hm', h2⟩
    · exact absurd ⟨right_back rb, right_back ra⟩ hno'
    · rw [h1, h2]
      simp only [Option.bind_some]
      have e1 : (mayP (mrg a b) == 1) = false := by simpa using may_ne1 (mrg a b)
      have e2 : (mayP (mrg b a) == 1) = false := by simpa using may_ne1 (mrg b a)
      rw [if_pos (by simpa using hm), e1, e2]; rfl
    · rw [h1, h2]
      simp only [Option.bind_some]
      have e1 : (mayP (mrg a b) == 1) = false := by simpa using may_ne1 (mrg a b)
      rw [if_pos (by simpa using hm), e1]; rfl
  · rcases merge_all mb ma with ⟨hno', h2⟩ | ⟨_, _, hm', h2⟩ | ⟨_, _, hm', h2⟩
    · exact absurd ⟨right_back rb, right_back ra⟩ hno'
    · rw [h1, h2]
      simp only [Option.bind_some]
      have e2 : (mayP (mrg b a) == 1) = false := by simpa using may_ne1 (mrg b a)
      rw [if_neg (by simp), if_pos (by simpa using hm'), e2]; rfl
    · rw [h1, h2]
      simp only [Option.bind_some]
      have hcl := cnf_len a b ma mb
      have hrm := mrg_right ma mb ra rb hm
      have hmm := mrg_mid ma mb hm
      have hlen : (mrg a b).length = (mrg b a).length := by unfold mrg; rw [List.length_map, List.length_map, keys_comm]
      have hml := mrg_len a b ma mb
      rw [if_neg (by simp), if_neg (by simp), cnf_comm b a, rows_refl _ (by omega), Option.bind_some, if_neg (by simp), if_neg (by rw [hlen]; simp), right_back hrm, Option.bind_some, if_neg (by simp)]
      have m1 : recon_Merge (mrg a b, b) = some (mrg a b, (cnf a b, 0)) := by
        have := merge_good hmm mb hrm rb (by rw [mrg_abs_r]; exact hm)
        rw [mrg_abs_r, cnf_abs_r] at this
        exact this
      have m2 : recon_Merge (mrg a b, a) = some (mrg a b, ([], 0)) := by
        have := merge_good hmm ma hrm ra (by rw [mrg_abs_l]; exact hm)
        rw [mrg_abs_l, cnf_abs_l] at this
        exact this
      refine loop_true (mrg a b).length (by omega) (fun again => ?_) fun i hi again ha => ?_
      · rw [if_neg (by simp), m1, Option.bind_some, m2, Option.bind_some]
        simp only [same_refl (mrg a b) (by omega), rows_refl (cnf a b) (by omega), Option.bind_some]
        rfl
      · have hi' : i < (mrg b a).length := by omega
        have hk : i < (keysL a b).length := by unfold mrg at hi; rwa [List.length_map] at hi
        have hp1 : (mrg a b)[i].1 = (keysL a b)[i] := by
          simp only [mrg, List.getElem_map]
          exact pick_path (List.getElem_mem hk)
        have hk' : i < (keysL b a).length := by rw [keys_comm]; exact hk
        have hp2 : (mrg b a)[i].1 = (keysL a b)[i] := by
          simp only [mrg, List.getElem_map]
          rw [pick_path (List.getElem_mem hk')]
          simp only [keys_comm b a]
        rw [if_pos (by simp; omega), ixL_nat hi, ixL_nat hi', wrap_succ (by omega), if_neg (by rw [hp1, hp2]; simp), ixL_nat hi]
        by_cases hc : (mrg a b)[i].1 ∈ cnf a b
        · rw [has_mem (b := true) (by omega) ⟨fun _ => hc, fun _ => rfl⟩, Option.bind_some, if_neg (by simp), ha]
        · have he : (mrg a b)[i] = (mrg b a)[i] := by
            have h3 := getL_comm hc
            rw [getL_mem (asc_mrg a b) (List.getElem_mem hi), hp1, ← hp2, getL_mem (asc_mrg b a) (List.getElem_mem hi')] at h3
            exact Option.some.inj h3
          rw [has_mem (b := false) (by omega) ⟨fun h => (by cases h), fun h => absurd h hc⟩, Option.bind_some, if_pos (by simp), ixL_nat hi, ixL_nat hi', he, if_neg (by simp), ha]
end Go.Proofs.W.Q10
