/- ReconPlanned: the plain law. -/
import Derived.Test.YtckammfgogiplaaGreatDoorK43
namespace Go.Proofs.W.Q10
open Go Go.Proofs.V Go.Proofs.W.Q9
set_option linter.unusedVariables false
set_option linter.unusedSimpArgs false
theorem any_get {t : List Fi} (ht : AscF t) (g : Fi) : (t.any fun f => (g.1 == f.1) && (g.2 == f.2)) = decide (getT t g.1 = some g.2) := by
  by_cases h : getT t g.1 = some g.2
  · rw [decide_eq_true h, List.any_eq_true]
    exact ⟨g, (getT_iff ht).1 h, by simp⟩
  · rw [decide_eq_false h, List.any_eq_false]
    intro f hf
    simp only [Bool.and_eq_true, beq_iff_eq, not_and]
    intro h1 h2
    exact h ((getT_iff ht).2 (by rw [h1, h2]; exact hf))
theorem few_treeB {t : List Fi} (h : (decide (t.length ≤ 40) && t.all okFi) = true) : ∀ g ∈ t, g.1.length ≤ 1000000 := by
  intro g hg
  simp only [Bool.and_eq_true, decide_eq_true_eq] at h
  have := List.all_eq_true.1 h.2 g hg
  simp only [okFi, Bool.and_eq_true, decide_eq_true_eq] at this
  omega
theorem plan_all {t : List Fi} {b : List En} (hb : ∀ g ∈ t, g.1.length ≤ 1000000) (mb : Mid b) : recon_Plan (t, b) = some ([], 1) ∨ (TreeX t ∧ RightS b ∧ recon_Plan (t, b) = some (dropsP t (filesP b) ++ putsP t (filesP b), 0)) := by
  obtain ⟨r1, h1⟩ := treeRight_ends t hb
  obtain ⟨r2, h2⟩ := mb.ends
  cases r1 with
  | false =>
    left
    unfold recon_Plan
    dsimp only
    rw [h1]; rfl
  | true =>
    cases r2 with
    | false =>
      left
      unfold recon_Plan
      dsimp only
      rw [h1, Option.bind_some, if_neg (by simp), h2]; rfl
    | true => exact .inr ⟨treeX_fwd hb h1, mb.right h2, plan_ok hb mb (treeX_fwd hb h1) (mb.right h2)⟩
end Go.Proofs.W.Q10
namespace Go.Proofs.W.Q10
open Go Go.Proofs.V Go.Proofs.W.Q9
set_option linter.unusedVariables false
set_option linter.unusedSimpArgs false
theorem idxP_at {α : Type} (b : α → Bool) : ∀ (l : List α) (i k : Nat), (hk : k < l.length) → b l[k] = true → (∀ j, (hj : j < l.length) → j < k → b l[j] = false) → idxP b l i = ((i + k : Nat) : Int)
  | [], i, k, hk, _, _ => by simp at hk
  | x :: l, i, 0, hk, h, _ => by
    have h : b x = true := h
    unfold idxP
    rw [if_pos h]; rfl
  | x :: l, i, k + 1, hk, h, hn => by
    have h0 : b x = false := hn 0 (by simp) (by omega)
    unfold idxP
    rw [if_neg (by rw [h0]; simp), idxP_at b l (i + 1) k (by simpa using hk) (by simpa using h) (fun j hj hjk => by have h1 := hn (j + 1) (by simp; omega) (by omega); exact h1)]
    congr 1
    omega
theorem idxP_none {α : Type} (b : α → Bool) : ∀ (l : List α) (i : Nat), (∀ x ∈ l, b x = false) → idxP b l i = -1
  | [], i, _ => rfl
  | x :: l, i, h => by
    unfold idxP
    rw [if_neg (by rw [h x (by simp)]; simp), idxP_none b l (i + 1) fun y hy => h y (by simp [hy])]
theorem refget_ok {t : List Fi} (hb : ∀ g ∈ t, g.1.length ≤ 1000000) (hR : TreeX t) (q : List UInt8) : ref04_Get (t, q) = some ((getT t q).getD [], (getT t q).isSome) := by
  have hl := hR.len
  have ha := treeX_asc hR
  have hidx : ref04_find (t, q) = some (idxP (fun f : Fi => f.1 == q) t 0) := by
    unfold ref04_find
    exact index_loop t (fun x3 : Fi => some (x3.1 == q)) (fun f => f.1 == q) (by omega) fun x hx => rfl
  unfold ref04_Get ref04_Find
  dsimp only
  rw [reftree_ok hb, treeX_back hb hR, Option.bind_some, if_neg (by simp), hidx]
  rcases findT_cases hb hR q with ⟨g, _⟩ | ⟨k, hk, hq, g, _⟩
  · rw [idxP_none _ t 0 fun x hx => by simpa using getT_none.1 g x hx]
    rw [g]; rfl
  · rw [idxP_at (fun f : Fi => f.1 == q) t 0 k hk (by simpa using hq) (fun j hj hjk => by
      have := asc_ne ha hj hk (by omega)
      rw [hq] at this
      simpa using this)]
    simp only [Option.bind_some, Nat.zero_add]
    rw [if_neg (by simp), ixL_nat hk, g]
    rfl
theorem refplan_ok {t : List Fi} {b : List En} (hb : ∀ g ∈ t, g.1.length ≤ 1000000) (mb : Mid b) : ref10_Plan (t, b) = recon_Plan (t, b) := by
  have hnb := mb.n
  obtain ⟨r1, h1⟩ := treeRight_ends t hb
  obtain ⟨r2, h2⟩ := mb.ends
  by_cases h : r1 = true ∧ r2 = true
  · obtain ⟨rfl, rfl⟩ := h
    have ht := treeX_fwd hb h1
    have rb := mb.right h2
    rw [plan_ok hb mb ht rb]
    have hfb := files_paths mb.p
    have hF := treeX_fwd hfb rb.tree
    have hl1 := ht.len
    have hl2 := hF.len
    have at_ := treeX_asc ht
    have hT : ref09_Tree b = some (filesP b) := by
      unfold ref09_Tree
      rw [refarch_ok mb.p (by omega), h2, Option.bind_some, if_neg (by simp), reffiles_ok b (by omega)]
      rfl
    unfold ref10_Plan
    dsimp only
    rw [reftree_ok hb, h1, Option.bind_some, refarch_ok mb.p (by omega), h2, Option.bind_some, if_neg (by simp), if_neg (by simp), hT, Option.bind_some]
    refine loop_run t.length (fun i s => s = (dropsP (t.take i) (filesP b), (i : Int))) _ (by omega) (fun again s hI => ?_) (fun i hi again s hI ha => ?_) rfl
    · subst hI
      dsimp only
      rw [if_neg (by simp), List.take_length]
      refine loop_run (filesP b).length (fun i s => s = (dropsP t (filesP b) ++ putsP t ((filesP b).take i), (i : Int))) _ (by omega) (fun again s hI => ?_) (fun i hi again s hI ha => ?_) (by simp [putsP])
      · subst hI
        dsimp only
        rw [if_neg (by simp), List.take_length]
      · subst hI
        dsimp only
        have htk : (filesP b).take (i + 1) = (filesP b).take i ++ [(filesP b)[i]] := (List.take_append_getElem hi).symm
        have hdl : (dropsP t (filesP b)).length ≤ 16 := by unfold dropsP; rw [List.length_map]; have := List.length_filter_le (fun f : Fi => (getT (filesP b) f.1).isNone) t; omega
        have hpl : (putsP t ((filesP b).take i)).length ≤ i := by
          unfold putsP
          rw [List.length_map]
          have := List.length_filter_le (fun g : Fi => !t.any fun f => (g.1 == f.1) && (g.2 == f.2)) ((filesP b).take i)
          rw [List.length_take] at this
          omega
        have hpos : (t.any fun f => ((filesP b)[i].1 == f.1) && ((filesP b)[i].2 == f.2)) = false → putsP t ((filesP b).take (i + 1)) = putsP t ((filesP b).take i) ++ [((filesP b)[i].1, (true, (filesP b)[i].2))] := fun hc => by
          rw [htk]
          simp only [putsP, List.filter_append, List.map_append]
          rw [List.filter_cons_of_pos (by rw [hc]; simp)]
          simp
        have hneg : (t.any fun f => ((filesP b)[i].1 == f.1) && ((filesP b)[i].2 == f.2)) = true → putsP t ((filesP b).take (i + 1)) = putsP t ((filesP b).take i) := fun hc => by
          rw [htk]
          simp only [putsP, List.filter_append, List.map_append]
          rw [List.filter_cons_of_neg (by rw [hc]; simp)]
          simp
        rw [any_get at_] at hpos hneg
        rw [if_pos (by simp; omega), ixL_nat hi, wrap_succ (by omega), refget_ok hb ht, Option.bind_some]
        dsimp only
        cases hg : getT t (filesP b)[i].1 with
        | none =>
          rw [if_pos (by rfl), ixL_nat hi, ixL_nat hi, if_pos (fits40 (by simp; omega))]
          refine ha _ ?_
          rw [hpos (by rw [hg]; simp), List.append_assoc]
        | some d =>
          rw [if_neg (by simp), ixL_nat hi]
          by_cases hd : d = (filesP b)[i].2
          · rw [if_neg (by simp [hd])]
            refine ha _ ?_
            rw [hneg (by rw [hg, hd]; simp)]
          · rw [if_pos (by simpa using hd), ixL_nat hi, ixL_nat hi, if_pos (fits40 (by simp; omega))]
            refine ha _ ?_
            rw [hpos (by rw [hg]; simpa using hd), List.append_assoc]
    · subst hI
      dsimp only
      have htk : t.take (i + 1) = t.take i ++ [t[i]] := (List.take_append_getElem hi).symm
      have hpl : (dropsP (t.take i) (filesP b)).length ≤ i := by
        unfold dropsP
        rw [List.length_map]
        have := List.length_filter_le (fun f : Fi => (getT (filesP b) f.1).isNone) (t.take i)
        rw [List.length_take] at this
        omega
      rw [if_pos (by simp; omega), ixL_nat hi, wrap_succ (by omega), refget_ok hfb hF, Option.bind_some]
      dsimp only
      cases hg : getT (filesP b) t[i].1 with
      | none =>
        rw [if_pos (by rfl), ixL_nat hi, if_pos (fits40 (by simp; omega))]
        refine ha _ ?_
        rw [htk]
        simp only [dropsP, List.filter_append, List.map_append]
        rw [List.filter_cons_of_pos (by rw [hg]; rfl)]
        simp
      | some d =>
        rw [if_neg (by simp)]
        refine ha _ ?_
        rw [htk]
        simp only [dropsP, List.filter_append, List.map_append]
        rw [List.filter_cons_of_neg (by rw [hg]; simp)]
        simp
  · have e : recon_Plan (t, b) = some ([], 1) := by
      unfold recon_Plan
      dsimp only
      rw [h1, Option.bind_some]
      cases r1 with
      | false => rfl
      | true =>
        rw [if_neg (by simp), h2, Option.bind_some]
        cases r2 with
        | false => rfl
        | true => exact absurd ⟨rfl, rfl⟩ h
    rw [e]
    unfold ref10_Plan
    dsimp only
    rw [reftree_ok hb, h1, Option.bind_some, refarch_ok mb.p (by omega), h2, Option.bind_some]
    cases r1 with
    | false => rfl
    | true =>
      cases r2 with
      | false => rfl
      | true => exact absurd ⟨rfl, rfl⟩ h
theorem acts_refl (a : List Ac) (hl : a.length < 1000000000) : ref10_Acts (a, a) = some true := by
  unfold ref10_Acts
  dsimp only
  rw [if_neg (by simp)]
  refine loop_true a.length (by omega) (fun again => by rw [if_neg (by simp)]) fun i hi again ha => ?_
  rw [if_pos (by simp; omega), ixL_nat hi, ixL_nat hi, wrap_succ (by omega), if_neg (by simp), ha]
/-- What Settle tells, of two that are small, and why. -/
inductive SettleV (a b : List En) (p : List UInt8) (take : Bool) (n : Int) : Prop
  | err (m : List En × (List (List UInt8) × Int)) (h : recon_Merge (a, b) = some m) (hne : m.2.2 ≠ 0) (hv : recon_Settle (a, (b, (p, (take, n)))) = some ([], m.2.2))
  | none (m : List En × (List (List UInt8) × Int)) (h : recon_Merge (a, b) = some m) (hz : m.2.2 = 0) (hno : p ∉ m.2.1) (hv : recon_Settle (a, (b, (p, (take, n)))) = some ([], 3))
  | main (m : List En × (List (List UInt8) × Int)) (h : recon_Merge (a, b) = some m) (hz : m.2.2 = 0) (hin : p ∈ m.2.1) (ra : RightS a) (rb : RightS b) (k1 k2 : Nat) (h1 : k1 < a.length) (h2 : k2 < b.length) (p1 : a[k1].1 = p) (f1 : scan_Find (a, p) = some (k1 : Int)) (f2 : scan_Find (b, p) = some (k2 : Int))
      (hv : recon_Settle (a, (b, (p, (take, n)))) = (if ((tickZ (joinC a[k1].2.2.2 b[k2].2.2.2) n).1 = (joinC a[k1].2.2.2 b[k2].2.2.2).1 ∧ (tickZ (joinC a[k1].2.2.2 b[k2].2.2.2) n).2 = (joinC a[k1].2.2.2 b[k2].2.2.2).2) then some ([], 2) else if mayP (a.set k1 (newE p take n a[k1] b[k2])) = 0 then some (a.set k1 (newE p take n a[k1] b[k2]), 0) else some ([], mayP (a.set k1 (newE p take n a[k1] b[k2])))))
theorem settle_val {a b : List En} (ha : Mid a) (hb : Mid b) {p : List UInt8} (hp : p.length ≤ 1000000) (take : Bool) (n : Int) : SettleV a b p take n := by
  rcases merge_all ha hb with ⟨_, hm⟩ | ⟨_, _, h0, hm⟩ | ⟨ra, rb, h0, hm⟩
  · refine .err _ hm (by decide) ?_
    unfold recon_Settle
    dsimp only
    rw [hm]; rfl
  · refine .err _ hm h0 ?_
    unfold recon_Settle
    dsimp only
    rw [hm, Option.bind_some, if_neg (by simpa using h0)]
  · have hcl := cnf_len a b ha hb
    by_cases hin : p ∈ cnf a b
    · obtain ⟨x, y, g1, g2, hxy⟩ := mem_cnf.1 hin
      rcases find_cases ra p with ⟨q1, _⟩ | ⟨k1, h1, p1, q1, f1⟩
      · rw [g1] at q1; cases q1
      rcases find_cases rb p with ⟨q2, _⟩ | ⟨k2, h2, p2, q2, f2⟩
      · rw [g2] at q2; cases q2
      have c1 := (ra.ok _ (List.getElem_mem h1)).cl
      have c2 := (rb.ok _ (List.getElem_mem h2)).cl
      refine .main _ hm rfl hin ra rb k1 k2 h1 h2 p1 f1 f2 ?_
      unfold recon_Settle
      dsimp only
      rw [hm, Option.bind_some, if_pos (by rfl), contS_mem (b := true) (by omega) ⟨fun _ => hin, fun _ => rfl⟩, Option.bind_some, if_pos rfl, f1, Option.bind_some, f2, Option.bind_some, if_neg (by omega), if_neg (by omega), Int.toNat_natCast, Int.toNat_natCast, List.getElem?_eq_getElem h1, Option.bind_some, List.getElem?_eq_getElem h2, Option.bind_some, joined_ok c1 c2, Option.bind_some]
      dsimp only
      rw [clockTick_ok (join_ok' c1 c2)]
      have hpl : ∀ e ∈ a.set k1 (newE p take n a[k1] b[k2]), e.1.length ≤ 1000000 := fun e he => by
        rcases List.mem_or_eq_of_mem_set he with he | rfl
        · exact ha.p e he
        · exact hp
      rw [show (p, ((if take then b[k2].2.1 else a[k1].2.1), ((if take then b[k2].2.2.1 else a[k1].2.2.1), tickZ (joinC a[k1].2.2.2 b[k2].2.2.2) n))) = newE p take n a[k1] b[k2] from rfl, may_ok hpl (by rw [List.length_set]; have := ha.n; omega), Option.bind_some]
      split
      · rfl
      · split
        · rename_i h; rw [if_pos (by simpa using h)]
        · rename_i h; rw [if_neg (by simpa using h)]
    · refine .none _ hm rfl hin ?_
      unfold recon_Settle
      dsimp only
      rw [hm, Option.bind_some, if_pos (by rfl), contS_mem (b := false) (by omega) ⟨fun h => (by cases h), fun h => absurd h hin⟩]
      rfl
end Go.Proofs.W.Q10
