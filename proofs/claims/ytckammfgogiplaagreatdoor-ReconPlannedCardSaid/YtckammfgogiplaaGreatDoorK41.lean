/- ReconTurned, ReconThree: plain laws. -/
import Derived.Test.YtckammfgogiplaaGreatDoorK39
import Derived.Test.YtckammfgogiplaaGreatDoorK40
namespace Go.Proofs.W.Q10
open Go Go.Proofs.V Go.Proofs.W.Q9
set_option linter.unusedVariables false
set_option linter.unusedSimpArgs false
end Go.Proofs.W.Q10
namespace Go.Proofs.W.Q10
open Go Go.Proofs.V Go.Proofs.W.Q9
set_option linter.unusedVariables false
set_option linter.unusedSimpArgs false
section
variable {a b : List En} {p : List UInt8} {take : Bool} {n : Int} {k1 k2 : Nat}
end
end Go.Proofs.W.Q10
namespace Go.Proofs.W.Q10
open Go Go.Proofs.V Go.Proofs.W.Q9
set_option linter.unusedVariables false
set_option linter.unusedSimpArgs false
/-- A loop that ends by a measure. -/
theorem loop_meas {S R : Type} {step : (S → Option R) → S → Option R} (μ : S → Nat) (I : S → Prop) (r : Option R) (hstep : ∀ again s, I s → (∀ s', I s' → μ s' < μ s → again s' = r) → step again s = r) {s0 : S} (h0 : I s0) (hm : μ s0 < fuel) : fixS step fuel s0 = r := by
  rw [fixS_eq]
  have key : ∀ k s, I s → μ s < k → fixN step k s = r := by
    intro k
    induction k with
    | zero => intro s _ h; omega
    | succ k ih =>
      intro s hs h
      rw [fixN]
      exact hstep _ s hs fun s' hs' hlt => ih s' hs' (by omega)
  exact key fuel s0 h0 hm
theorem half_ok {R : Type} {n : Nat} (h : n < 4000000000000000000) (f : Int → Option R) : shG .shr .u64 (IntKind.wrap .u64 (IntKind.wrap .i64 (n : Int))) 1 f = f ((n / 2 : Nat) : Int) := by
  unfold shG
  rw [if_neg (by decide), wrapI (by omega) (by omega)]
  have e : IntKind.wrap .u64 (n : Int) = (n : Int) := by
    show (n : Int) % (2 ^ 64 : Int) = (n : Int)
    omega
  rw [e]
  congr 1
  show (n : Int).fdiv (2 ^ (Min.min (1 : Int).toNat 64)) = _
  have : (2 : Int) ^ (Min.min (1 : Int).toNat 64) = 2 := by decide
  rw [this, Int.fdiv_eq_ediv_of_nonneg _ (by decide)]
  omega
theorem cmp_lt : ∀ x y : List UInt8, decide (Lib.compareBytes x y < 0) = Op.bytesLess x y
  | [], [] => rfl
  | [], y :: ys => rfl
  | x :: xs, [] => rfl
  | x :: xs, y :: ys => by
    unfold Lib.compareBytes Op.bytesLess
    split
    · rename_i h; simp [h]
    · rename_i h
      split
      · rename_i h2
        have : x ≠ y := by rintro rfl; exact h h2
        simp [h, this]
      · rename_i h2
        have : x = y := UInt8.le_antisymm (UInt8.not_lt.1 h2) (UInt8.not_lt.1 h)
        subst this
        rw [cmp_lt xs ys]
        simp [UInt8.lt_irrefl]
theorem cmp_eq : ∀ x y : List UInt8, (Lib.compareBytes x y == 0) = (x == y)
  | [], [] => rfl
  | [], y :: ys => rfl
  | x :: xs, [] => rfl
  | x :: xs, y :: ys => by
    unfold Lib.compareBytes
    split
    · rename_i h
      have : x ≠ y := by rintro rfl; exact UInt8.lt_irrefl _ h
      simp [this]
    · rename_i h
      split
      · rename_i h2
        have : x ≠ y := by rintro rfl; exact h h2
        simp [this]
      · rename_i h2
        have : x = y := UInt8.le_antisymm (UInt8.not_lt.1 h2) (UInt8.not_lt.1 h)
        subst this
        rw [cmp_eq xs ys]
        simp
abbrev AscF (t : List Fi) : Prop := Asc (fun f : Fi => f.1) t
theorem place_ok {t : List Fi} (ht : AscF t) (hl : t.length ≤ 1000000) (q : List UInt8) : ∃ k : Nat, k ≤ t.length ∧ (∀ i, (hi : i < t.length) → (Op.bytesLess t[i].1 q = true ↔ i < k)) ∧ tree_place (t, q) = some ((k : Int), if h : k < t.length then t[k].1 == q else false) := by
  obtain ⟨k, hk⟩ : ∃ k, k = t.findIdx fun f => !Op.bytesLess f.1 q := ⟨_, rfl⟩
  have hkl : k ≤ t.length := by rw [hk]; exact List.findIdx_le_length
  have hless : ∀ i, (hi : i < t.length) → (Op.bytesLess t[i].1 q = true ↔ i < k) := by
    intro i hi
    constructor
    · intro h
      rcases Nat.lt_or_ge i k with h1 | h1
      · exact h1
      · exfalso
        have hk2 : k < t.length := by omega
        have h2 : (!Op.bytesLess t[k].1 q) = true := by
          have := List.findIdx_getElem (xs := t) (p := fun f => !Op.bytesLess f.1 q) (w := by rw [← hk]; exact hk2)
          simpa only [← hk] using this
        rcases Nat.lt_or_ge k i with h3 | h3
        · have h4 : Les t[k].1 t[i].1 := List.pairwise_iff_getElem.1 ht k i hk2 hi h3
          rw [Q9.less_trans h4 h] at h2
          cases h2
        · have : i = k := by omega
          subst this
          rw [h] at h2
          cases h2
    · intro h
      have := List.not_of_lt_findIdx (p := fun f : Fi => !Op.bytesLess f.1 q) (xs := t) (i := i) (by rw [← hk]; exact h)
      simpa using this
  refine ⟨k, hkl, hless, ?_⟩
  have h1 : ∀ f : Fi, tree_place_1 (f.1, (f.2, q)) = some (Lib.compareBytes f.1 q) := fun f => rfl
  have key : slices_BinarySearchFunc_string_tree_place_1 (t, q) = some ((k : Int), if h : k < t.length then t[k].1 == q else false) := by
    unfold slices_BinarySearchFunc_string_tree_place_1
    refine loop_meas (fun s => (s.2 - s.1).toNat) (fun s => ∃ lo hi : Nat, s = ((lo : Int), (hi : Int)) ∧ lo ≤ k ∧ k ≤ hi ∧ hi ≤ t.length) _ (fun again s hI ha => ?_) ⟨0, t.length, rfl, by omega, hkl, by omega⟩ (by unfold fuel; simp; omega)
    obtain ⟨lo, hi, rfl, hlo, hhi, hhl⟩ := hI
    dsimp only
    by_cases hlt : lo < hi
    · have e1 : ((lo : Int) + (hi : Int)) = ((lo + hi : Nat) : Int) := by omega
      rw [if_pos (by simp; omega), e1, half_ok (by omega)]
      have hm : (lo + hi) / 2 < t.length := by omega
      rw [wrapI (by omega) (by omega), ixL_nat hm, h1, Option.bind_some, cmp_lt]
      by_cases hc : Op.bytesLess t[(lo + hi) / 2].1 q = true
      · rw [if_pos hc]
        have := (hless _ hm).1 hc
        rw [wrap_succ (by omega)]
        exact ha _ ⟨(lo + hi) / 2 + 1, hi, rfl, by omega, hhi, hhl⟩ (by dsimp only; omega)
      · rw [if_neg hc]
        have : ¬ (lo + hi) / 2 < k := fun h => hc ((hless _ hm).2 h)
        exact ha _ ⟨lo, (lo + hi) / 2, rfl, hlo, by omega, by omega⟩ (by dsimp only; omega)
    · have : lo = k := by omega
      subst this
      rw [if_neg (by simp; omega)]
      by_cases h : lo < t.length
      · rw [if_pos (by simp; omega), ixL_nat h, h1, Option.bind_some, cmp_eq, dif_pos h]
      · rw [if_neg (by simp; omega), dif_neg h]
  unfold tree_place
  show (slices_BinarySearchFunc_string_tree_place_1 (t, q)).bind _ = _
  rw [key]
  rfl
/-- What a tree has at a path. -/
def getT (t : List Fi) (q : List UInt8) : Option (List UInt8) := (t.find? fun f => decide (f.1 = q)).map (·.2)
theorem getT_iff {t : List Fi} (ht : AscF t) {q d : List UInt8} : getT t q = some d ↔ (q, d) ∈ t := by
  unfold getT
  constructor
  · intro h
    obtain ⟨f, hf, rfl⟩ := Option.map_eq_some_iff.1 h
    have h1 := List.mem_of_find?_eq_some hf
    have h2 := List.find?_some hf
    have h2 : f.1 = q := by simpa using h2
    rw [← h2]; exact h1
  · intro h
    cases hf : t.find? fun f => decide (f.1 = q) with
    | none =>
      have := List.find?_eq_none.1 hf (q, d) h
      simp at this
    | some f =>
      have h1 := List.mem_of_find?_eq_some hf
      have h2 := List.find?_some hf
      have h2 : f.1 = q := by simpa using h2
      have := asc_inj ht h1 h (by exact h2)
      rw [this]; rfl
theorem getT_none {t : List Fi} {q : List UInt8} : getT t q = none ↔ ∀ f ∈ t, f.1 ≠ q := by
  unfold getT
  rw [Option.map_eq_none_iff, List.find?_eq_none]
  simp
theorem treeX_asc {t : List Fi} (h : TreeX t) : AscF t := asc_of _ t h.up
theorem findT_cases {t : List Fi} (hb : ∀ g ∈ t, g.1.length ≤ 1000000) (hR : TreeX t) (q : List UInt8) : (getT t q = none ∧ tree_Find (t, q) = some (-1)) ∨ ∃ k, ∃ hk : k < t.length, t[k].1 = q ∧ getT t q = some t[k].2 ∧ tree_Find (t, q) = some (k : Int) := by
  have hl := hR.len
  have ha := treeX_asc hR
  obtain ⟨k, hkl, hless, hp⟩ := place_ok ha (by omega) q
  have hn : (∀ f ∈ t, f.1 ≠ q) ∨ ∃ h : k < t.length, t[k].1 = q := by
    by_cases h : ∃ h : k < t.length, t[k].1 = q
    · exact .inr h
    · refine .inl fun f hf hq => h ?_
      obtain ⟨i, hi, rfl⟩ := List.getElem_of_mem hf
      have h1 : ¬ i < k := fun hik => by
        have := (hless i hi).2 hik
        rw [hq, less_irrefl] at this
        cases this
      have h2 : ¬ k < i := fun hki => by
        have h3 : Les t[k].1 t[i].1 := List.pairwise_iff_getElem.1 ha k i (by omega) hi hki
        rw [hq] at h3
        have := (hless k (by omega)).1 h3
        omega
      have : i = k := by omega
      subst this
      exact ⟨hi, hq⟩
  rcases hn with hn | ⟨hk, hq⟩
  · refine .inl ⟨getT_none.2 hn, ?_⟩
    unfold tree_Find
    dsimp only
    rw [hp, Option.bind_some]
    rw [if_neg]
    by_cases h : k < t.length
    · rw [dif_pos h]
      have := hn _ (List.getElem_mem h)
      simpa using this
    · rw [dif_neg h]; simp
  · refine .inr ⟨k, hk, hq, (getT_iff ha).2 (by rw [← hq]; exact List.getElem_mem hk), ?_⟩
    unfold tree_Find
    dsimp only
    rw [hp, Option.bind_some, if_pos (by rw [dif_pos hk, hq]; simp), treeX_back hb hR, Option.bind_some, if_pos rfl]
theorem get_ok {t : List Fi} (hb : ∀ g ∈ t, g.1.length ≤ 1000000) (hR : TreeX t) (q : List UInt8) : tree_Get (t, q) = some ((getT t q).getD [], (getT t q).isSome) := by
  unfold tree_Get
  dsimp only
  rcases findT_cases hb hR q with ⟨g, f⟩ | ⟨k, hk, hq, g, f⟩
  · rw [f, Option.bind_some, if_pos (by decide), g]
    rfl
  · rw [f, Option.bind_some, if_neg (by simp), ixL_nat hk, g]
    rfl
theorem contF_ok {l : List Fi} {g : Fi} (hl : l.length < 1000000000) : slices_Contains_File (l, (g.1, g.2)) = some (l.any fun f => (g.1 == f.1) && (g.2 == f.2)) := by
  unfold slices_Contains_File
  have : slices_Index_File (l, (g.1, g.2)) = some (idxP (fun f => (g.1 == f.1) && (g.2 == f.2)) l 0) := by
    unfold slices_Index_File
    refine loop_meas (fun s => l.length - s.2.2.toNat) (fun s => ∃ i : Nat, s = (g.1, (g.2, (i : Int))) ∧ i ≤ l.length ∧ idxP (fun f => (g.1 == f.1) && (g.2 == f.2)) l 0 = idxP (fun f => (g.1 == f.1) && (g.2 == f.2)) (l.drop i) i) _ (fun again s hI ha => ?_) ⟨0, rfl, by omega, rfl⟩ (by unfold fuel; dsimp only; omega)
    obtain ⟨i, rfl, hi, he⟩ := hI
    dsimp only
    by_cases h : i < l.length
    · rw [if_pos (by simp; omega), ixL_nat h, wrap_succ (by omega)]
      have hcons : ∀ (x : Fi) (l' : List Fi) (i : Nat), idxP (fun f : Fi => (g.1 == f.1) && (g.2 == f.2)) (x :: l') i = if ((g.1 == x.1) && (g.2 == x.2)) = true then (i : Int) else idxP (fun f : Fi => (g.1 == f.1) && (g.2 == f.2)) l' (i + 1) := fun _ _ _ => rfl
      rw [List.drop_eq_getElem_cons h, hcons] at he
      by_cases hc : ((g.1 == l[i].1) && (g.2 == l[i].2)) = true
      · rw [if_pos hc]
        rw [if_pos hc] at he
        rw [he]
      · rw [if_neg hc]
        rw [if_neg hc] at he
        exact ha _ ⟨i + 1, rfl, by omega, he⟩ (by dsimp only; omega)
    · have : i = l.length := by omega
      subst this
      rw [if_neg (by simp)]
      rw [List.drop_length] at he
      rw [he]; rfl
  show (slices_Index_File (l, (g.1, g.2))).bind _ = _
  rw [this]
  show some _ = _
  rw [idxP_any]
theorem fits40 {n : Nat} (h : n ≤ 600000000) : fitsB 40 (n : Int) = true := by
  unfold fitsB
  simp only [Int.toNat_natCast, Bool.and_eq_true, decide_eq_true_eq]
  omega
abbrev Ac := List UInt8 × (Bool × List UInt8)
def dropsP (t u : List Fi) : List Ac := (t.filter fun f => (getT u f.1).isNone).map fun f => (f.1, (false, []))
def putsP (t u : List Fi) : List Ac := (u.filter fun g => !t.any fun f => (g.1 == f.1) && (g.2 == f.2)).map fun g => (g.1, (true, g.2))
theorem plan_ok {t : List Fi} {b : List En} (hb : ∀ g ∈ t, g.1.length ≤ 1000000) (mb : Mid b) (ht : TreeX t) (rb : RightS b) : recon_Plan (t, b) = some (dropsP t (filesP b) ++ putsP t (filesP b), 0) := by
  have hT : scan_Tree b = some (filesP b) := by
    unfold scan_Tree
    rw [right_back rb, Option.bind_some, if_neg (by simp), files_ok b (by have := rb.len; omega)]
    rfl
  have hfb := files_paths mb.p
  have hF := treeX_fwd hfb rb.tree
  have hl1 := ht.len
  have hl2 := hF.len
  unfold recon_Plan
  dsimp only
  rw [treeX_back hb ht, Option.bind_some, if_neg (by simp), right_back rb, Option.bind_some, if_neg (by simp), hT, Option.bind_some]
  refine loop_run t.length (fun i s => s = (dropsP (t.take i) (filesP b), ([], (i : Int)))) _ (by omega) (fun again s hI => ?_) (fun i hi again s hI ha => ?_) rfl
  · subst hI
    dsimp only
    rw [if_neg (by simp), List.take_length]
    refine loop_run (filesP b).length (fun i s => s = (dropsP t (filesP b), (putsP t ((filesP b).take i), (i : Int)))) _ (by omega) (fun again s hI => ?_) (fun i hi again s hI ha => ?_) rfl
    · subst hI
      dsimp only
      rw [if_neg (by simp), List.take_length]
      unfold slices_Concat_Action
      dsimp only
      rw [if_pos ⟨by unfold dropsP; rw [List.length_map]; have := List.length_filter_le (fun f : Fi => (getT (filesP b) f.1).isNone) t; omega, by unfold putsP; rw [List.length_map]; have := List.length_filter_le (fun g : Fi => !t.any fun f => (g.1 == f.1) && (g.2 == f.2)) (filesP b); omega⟩]
      rfl
    · subst hI
      dsimp only
      have htk : (filesP b).take (i + 1) = (filesP b).take i ++ [(filesP b)[i]] := (List.take_append_getElem hi).symm
      rw [if_pos (by simp; omega), ixL_nat hi, wrap_succ (by omega), contF_ok (by omega), Option.bind_some]
      have hpl : (putsP t ((filesP b).take i)).length ≤ i := by
        unfold putsP
        rw [List.length_map]
        have := List.length_filter_le (fun g : Fi => !t.any fun f => (g.1 == f.1) && (g.2 == f.2)) ((filesP b).take i)
        rw [List.length_take] at this
        omega
      cases hc : t.any fun f => ((filesP b)[i].1 == f.1) && ((filesP b)[i].2 == f.2) with
      | true =>
        rw [if_neg (by simp)]
        refine ha _ ?_
        rw [htk]
        simp only [putsP, List.filter_append, List.map_append]
        rw [List.filter_cons_of_neg (by rw [hc]; simp)]
        simp
      | false =>
        rw [if_pos (by simp), if_pos (fits40 (by simp; omega))]
        refine ha _ ?_
        rw [htk]
        simp only [putsP, List.filter_append, List.map_append]
        rw [List.filter_cons_of_pos (by rw [hc]; simp)]
        simp
  · subst hI
    dsimp only
    have htk : t.take (i + 1) = t.take i ++ [t[i]] := (List.take_append_getElem hi).symm
    rw [if_pos (by simp; omega), ixL_nat hi, wrap_succ (by omega)]
    have hpl : (dropsP (t.take i) (filesP b)).length ≤ i := by
      unfold dropsP
      rw [List.length_map]
      have := List.length_filter_le (fun f : Fi => (getT (filesP b) f.1).isNone) (t.take i)
      rw [List.length_take] at this
      omega
    rcases findT_cases hfb hF t[i].1 with ⟨g, f⟩ | ⟨k, hk, hq, g, f⟩
    · rw [f, Option.bind_some, if_pos (by decide), if_pos (fits40 (by simp; omega))]
      refine ha _ ?_
      rw [htk]
      simp only [dropsP, List.filter_append, List.map_append]
      rw [List.filter_cons_of_pos (by rw [g]; rfl)]
      simp
    · rw [f, Option.bind_some, if_neg (by simp)]
      refine ha _ ?_
      rw [htk]
      simp only [dropsP, List.filter_append, List.map_append]
      rw [List.filter_cons_of_neg (by rw [g]; simp)]
      simp
end Go.Proofs.W.Q10
namespace Go.Proofs.W.Q10
open Go Go.Proofs.V Go.Proofs.W.Q9
set_option linter.unusedVariables false
set_option linter.unusedSimpArgs false
theorem countP_split {α : Type} (p q r : α → Bool) : ∀ (l : List α), (∀ x ∈ l, (if p x = true then 1 else 0) = (if q x = true then 1 else 0) + (if r x = true then 1 else 0)) → l.countP p = l.countP q + l.countP r
  | [], _ => rfl
  | x :: l, h => by
    have ih := countP_split p q r l fun y hy => h y (by simp [hy])
    have h0 := h x (by simp)
    rw [List.countP_cons, List.countP_cons, List.countP_cons, ih, h0]
    omega
/-- Changed: there, and other. -/
def chgT (u : List Fi) (f : Fi) : Bool := match getT u f.1 with
  | some d => !(d == f.2)
  | none => false
theorem chg_count {t u : List Fi} (ht : AscF t) (hu : AscF u) : t.countP (chgT u) = u.countP (chgT t) := by
  rw [List.countP_eq_length_filter, List.countP_eq_length_filter]
  have h : (t.filter (chgT u)).map (·.1) = (u.filter (chgT t)).map (·.1) := by
    refine up_eq (List.pairwise_map.2 (List.Pairwise.sublist List.filter_sublist ht)) (List.pairwise_map.2 (List.Pairwise.sublist List.filter_sublist hu)) fun q => ?_
    have key : ∀ {t u : List Fi}, AscF t → AscF u → ∀ q, q ∈ (t.filter (chgT u)).map (·.1) → q ∈ (u.filter (chgT t)).map (·.1) := by
      intro t u ht hu q h
      obtain ⟨f, hf, rfl⟩ := List.mem_map.1 h
      obtain ⟨hf, hc⟩ := List.mem_filter.1 hf
      unfold chgT at hc
      cases hg : getT u f.1 with
      | none => rw [hg] at hc; cases hc
      | some d =>
        rw [hg] at hc
        have hd := (getT_iff hu).1 hg
        refine List.mem_map.2 ⟨(f.1, d), List.mem_filter.2 ⟨hd, ?_⟩, rfl⟩
        unfold chgT
        rw [(getT_iff ht).2 (show (f.1, f.2) ∈ t from hf)]
        simp only [Bool.not_eq_true', beq_eq_false_iff_ne, ne_eq] at hc ⊢
        exact fun e => hc e.symm
    exact ⟨key ht hu q, key hu ht q⟩
  have := congrArg List.length h
  simpa using this
theorem any_get {t : List Fi} (ht : AscF t) (g : Fi) : (t.any fun f => (g.1 == f.1) && (g.2 == f.2)) = decide (getT t g.1 = some g.2) := by
  by_cases h : getT t g.1 = some g.2
  · rw [decide_eq_true h, List.any_eq_true]
    exact ⟨g, (getT_iff ht).1 h, by simp⟩
  · rw [decide_eq_false h, List.any_eq_false]
    intro f hf
    simp only [Bool.and_eq_true, beq_iff_eq, not_and]
    intro h1 h2
    exact h ((getT_iff ht).2 (by rw [h1, h2]; exact hf))
theorem plan_count {t u : List Fi} (ht : AscF t) (hu : AscF u) : t.countP (fun f => !(getT u f.1).isSome || !((getT u f.1).getD [] == f.2)) + u.countP (fun g => (getT t g.1).isNone) = (dropsP t u ++ putsP t u).length := by
  rw [List.length_append]
  unfold dropsP putsP
  rw [List.length_map, List.length_map, ← List.countP_eq_length_filter, ← List.countP_eq_length_filter]
  rw [countP_split (fun f => !(getT u f.1).isSome || !((getT u f.1).getD [] == f.2)) (fun f => (getT u f.1).isNone) (chgT u) t fun f hf => by
    unfold chgT
    cases getT u f.1 <;> simp]
  rw [countP_split (fun g => !t.any fun f => (g.1 == f.1) && (g.2 == f.2)) (fun g => (getT t g.1).isNone) (chgT t) u fun g hg => by
    rw [any_get ht]
    unfold chgT
    cases getT t g.1 <;> simp]
  rw [chg_count ht hu]
  omega
noncomputable def blkB (A : List Ac) (again : Int → Option Bool) (s : Int) : Option Bool :=
  if decide (s > 0) = true then ixL A (IntKind.wrap .i64 (s - 1)) fun x16 => ixL A s fun x17 => if (x16.2.1 == x17.2.1) = true then ixL A s fun x18 => ixL A (IntKind.wrap .i64 (s - 1)) fun x19 => if (Op.bytesLess x18.1 x19.1 || x18.1 == x19.1) = true then some false else again (IntKind.wrap .i64 (s + 1)) else again (IntKind.wrap .i64 (s + 1)) else again (IntKind.wrap .i64 (s + 1))
noncomputable def blkT (A : List Ac) (again : Int → Option Bool) (s : Int) : Option Bool :=
  if decide (s > 0) = true then ixL A (IntKind.wrap .i64 (s - 1)) fun x14 => if x14.2.1 = true then ixL A s fun x15 => if (!x15.2.1) = true then some false else blkB A again s else blkB A again s else blkB A again s
theorem blk_ok {A : List Ac} {again : Int → Option Bool} {i : Nat} (hi : i < A.length) (hl : A.length ≤ 1000000) (h1 : ∀ h : 0 < i, A[i-1].2.1 = true → A[i].2.1 = true) (h2 : ∀ h : 0 < i, A[i-1].2.1 = A[i].2.1 → rgt A[i].1 A[i-1].1) (ha : again ((i + 1 : Nat) : Int) = some true) : blkT A again (i : Int) = some true := by
  have hB : blkB A again (i : Int) = some true := by
    unfold blkB
    rw [wrap_succ (by omega)]
    by_cases h : 0 < i
    · rw [if_pos (by simp; omega), pred64 h (by omega), ixL_nat (by omega), ixL_nat hi]
      by_cases he : A[i-1].2.1 = A[i].2.1
      · rw [if_pos (by rw [he]; simp), ixL_nat hi, ixL_nat (by omega)]
        have := h2 h he
        unfold rgt at this
        rw [if_neg (by rw [this]; simp), ha]
      · rw [if_neg (by simpa using he), ha]
    · rw [if_neg (by simp; omega), ha]
  unfold blkT
  by_cases h : 0 < i
  · rw [if_pos (by simp; omega), pred64 h (by omega), ixL_nat (by omega), hB]
    split
    · rename_i hp
      rw [ixL_nat hi, if_neg (by rw [h1 h hp]; simp)]
    · rfl
  · rw [if_neg (by simp; omega), hB]
theorem asc_drops {t u : List Fi} (ht : AscF t) : Asc (fun a : Ac => a.1) (dropsP t u) := by
  unfold dropsP Asc
  rw [List.pairwise_map]
  exact List.Pairwise.sublist List.filter_sublist ht
theorem asc_puts {t u : List Fi} (hu : AscF u) : Asc (fun a : Ac => a.1) (putsP t u) := by
  unfold putsP Asc
  rw [List.pairwise_map]
  exact List.Pairwise.sublist List.filter_sublist hu
theorem few_treeB {t : List Fi} (h : (decide (t.length ≤ 40) && t.all okFi) = true) : ∀ g ∈ t, g.1.length ≤ 1000000 := by
  intro g hg
  simp only [Bool.and_eq_true, decide_eq_true_eq] at h
  have := List.all_eq_true.1 h.2 g hg
  simp only [okFi, Bool.and_eq_true, decide_eq_true_eq] at this
  omega
theorem plan_all {t : List Fi} {b : List En} (hb : ∀ g ∈ t, g.1.length ≤ 1000000) (mb : Mid b) : recon_Plan (t, b) = some ([], 1) ∨ (TreeX t ∧ RightS b ∧ recon_Plan (t, b) = some (dropsP t (filesP b) ++ putsP t (filesP b), 0)) := by
  obtain ⟨r1, h1⟩ := treeRight_ends t hb
  obtain ⟨r2, h2⟩ := mb.ends
  cases r1 with
  | false =>
    left
    unfold recon_Plan
    dsimp only
    rw [h1]; rfl
  | true =>
    cases r2 with
    | false =>
      left
      unfold recon_Plan
      dsimp only
      rw [h1, Option.bind_some, if_neg (by simp), h2]; rfl
    | true => exact .inr ⟨treeX_fwd hb h1, mb.right h2, plan_ok hb mb (treeX_fwd hb h1) (mb.right h2)⟩
theorem tree_of {b : List En} (rb : RightS b) : scan_Tree b = some (filesP b) := by
  unfold scan_Tree
  rw [right_back rb, Option.bind_some, if_neg (by simp), files_ok b (by have := rb.len; omega)]
  rfl
theorem planned_ok (x : List Fi × List En) : law10_ReconPlanned x = some true := by
  obtain ⟨t, b⟩ := x
  unfold law10_ReconPlanned
  dsimp only
  rw [small_ok, Option.bind_some, few4_ok, Option.bind_some, few9_ok, Option.bind_some]
  cases hf : (decide (t.length ≤ 40) && t.all okFi) with
  | false => rfl
  | true =>
  rw [if_neg (by simp)]
  cases hg : (decide (b.length ≤ 60) && b.all okEn) with
  | false => rfl
  | true =>
  rw [if_neg (by simp)]
  have hb := few_treeB hf
  have mb := (few_small hg).mid
  rcases plan_all hb mb with h | ⟨ht, rb, h⟩
  · rw [h]; rfl
  · have hub := files_paths mb.p
    have hu := treeX_fwd hub rb.tree
    have at_ := treeX_asc ht
    have au_ := treeX_asc hu
    have l1 := ht.len
    have l2 := hu.len
    obtain ⟨u, hue⟩ : ∃ u, u = filesP b := ⟨_, rfl⟩
    rw [h, Option.bind_some, if_neg (by simp), tree_of rb, Option.bind_some]
    rw [← hue] at hub hu au_ l2 ⊢
    obtain ⟨A, hA⟩ : ∃ A, A = dropsP t u ++ putsP t u := ⟨_, rfl⟩
    rw [← hA]
    have hAl : A.length = (dropsP t u).length + (putsP t u).length := by rw [hA, List.length_append]
    have hdl : (dropsP t u).length ≤ 16 := by unfold dropsP; rw [List.length_map]; have := List.length_filter_le (fun f : Fi => (getT u f.1).isNone) t; omega
    have hpl : (putsP t u).length ≤ 16 := by unfold putsP; rw [List.length_map]; have := List.length_filter_le (fun g : Fi => !t.any fun f => (g.1 == f.1) && (g.2 == f.2)) u; omega
    dsimp only
    refine loop_true A.length (by omega) (fun again => ?_) fun i hi again hg => ?_
    · rw [if_neg (by simp)]
      refine loop_run t.length (fun i s => s = ((((t.take i).countP (fun f => !(getT u f.1).isSome || !((getT u f.1).getD [] == f.2)) : Nat) : Int), (i : Int))) _ (by omega) (fun again s hI => ?_) (fun i hi again s hI ha => ?_) rfl
      · subst hI
        dsimp only
        rw [if_neg (by simp), List.take_length]
        refine loop_run u.length (fun i s => s = (((t.countP (fun f => !(getT u f.1).isSome || !((getT u f.1).getD [] == f.2)) + (u.take i).countP (fun g => (getT t g.1).isNone) : Nat) : Int), (i : Int))) _ (by omega) (fun again s hI => ?_) (fun i hi again s hI ha => ?_) rfl
        · subst hI
          dsimp only
          rw [if_neg (by simp), List.take_length, plan_count at_ au_, ← hA]
          simp
        · subst hI
          dsimp only
          have htk : u.take (i + 1) = u.take i ++ [u[i]] := (List.take_append_getElem hi).symm
          have hc1 := List.countP_le_length (p := fun f : Fi => !(getT u f.1).isSome || !((getT u f.1).getD [] == f.2)) (l := t)
          have hc2 := List.countP_le_length (p := fun g : Fi => (getT t g.1).isNone) (l := u.take i)
          rw [List.length_take] at hc2
          rw [if_pos (by simp; omega), ixL_nat hi, wrap_succ (by omega), wrap_succ (by omega)]
          rcases findT_cases hb ht u[i].1 with ⟨g, f⟩ | ⟨k, hk, hq, g, f⟩
          · rw [f, Option.bind_some, if_pos (by decide)]
            refine ha _ ?_
            rw [htk, List.countP_append, List.countP_singleton, g]
            rfl
          · rw [f, Option.bind_some, if_neg (by simp)]
            refine ha _ ?_
            rw [htk, List.countP_append, List.countP_singleton, g]
            rfl
      · subst hI
        dsimp only
        have htk : t.take (i + 1) = t.take i ++ [t[i]] := (List.take_append_getElem hi).symm
        have hc1 := List.countP_le_length (p := fun f : Fi => !(getT u f.1).isSome || !((getT u f.1).getD [] == f.2)) (l := t.take i)
        rw [List.length_take] at hc1
        rw [if_pos (by simp; omega), ixL_nat hi, wrap_succ (by omega), wrap_succ (by omega), get_ok hub hu, Option.bind_some]
        have hs : (t.take (i + 1)).countP (fun f => !(getT u f.1).isSome || !((getT u f.1).getD [] == f.2)) = (t.take i).countP (fun f => !(getT u f.1).isSome || !((getT u f.1).getD [] == f.2)) + (if (!(getT u t[i].1).isSome || !((getT u t[i].1).getD [] == t[i].2)) = true then 1 else 0) := by
          rw [htk, List.countP_append, List.countP_singleton]
        dsimp only
        cases h1 : (getT u t[i].1).isSome with
        | false =>
          rw [if_pos (by rfl)]
          refine ha _ ?_
          rw [hs, h1]
          rfl
        | true =>
          rw [if_neg (by simp), ixL_nat hi]
          cases h2 : ((getT u t[i].1).getD [] == t[i].2) with
          | false =>
            rw [if_pos (by rfl)]
            refine ha _ ?_
            rw [hs, h1, h2]
            rfl
          | true =>
            rw [if_neg (by simp)]
            refine ha _ ?_
            rw [hs, h1, h2]
            rfl
    · have hput : ∀ j, (hj : j < A.length) → (A[j].2.1 = true ↔ (dropsP t u).length ≤ j) := by
        intro j hj
        by_cases h : j < (dropsP t u).length
        · have e : A[j] = (dropsP t u)[j] := by simp only [hA]; exact List.getElem_append_left h
          have : (dropsP t u)[j] ∈ dropsP t u := List.getElem_mem h
          obtain ⟨f, hf, hfe⟩ := List.mem_map.1 this
          rw [e, ← hfe]
          simp; omega
        · have hj2 : j - (dropsP t u).length < (putsP t u).length := by omega
          have e : A[j] = (putsP t u)[j - (dropsP t u).length] := by simp only [hA]; exact List.getElem_append_right (by omega)
          have : (putsP t u)[j - (dropsP t u).length] ∈ putsP t u := List.getElem_mem hj2
          obtain ⟨f, hf, hfe⟩ := List.mem_map.1 this
          rw [e, ← hfe]
          simp; omega
      have h1 : ∀ h : 0 < i, A[i-1].2.1 = true → A[i].2.1 = true := fun h hp => (hput i hi).2 (by have := (hput (i-1) (by omega)).1 hp; omega)
      have h2 : ∀ h : 0 < i, A[i-1].2.1 = A[i].2.1 → rgt A[i].1 A[i-1].1 := by
        intro h he
        by_cases hd : i < (dropsP t u).length
        · have e : A[i] = (dropsP t u)[i] := by simp only [hA]; exact List.getElem_append_left hd
          have e' : A[i-1] = (dropsP t u)[i-1] := by simp only [hA]; exact List.getElem_append_left (by omega)
          rw [e, e']
          exact rgt_of (List.pairwise_iff_getElem.1 (asc_drops (u := u) at_) (i-1) i (by omega) hd (by omega))
        · have hpi : A[i].2.1 = true := (hput i hi).2 (by omega)
          rw [hpi] at he
          have hle := (hput (i-1) (by omega)).1 he
          have e : A[i] = (putsP t u)[i - (dropsP t u).length]'(by omega) := by simp only [hA]; exact List.getElem_append_right (by omega)
          have e' : A[i-1] = (putsP t u)[i - 1 - (dropsP t u).length]'(by omega) := by simp only [hA]; exact List.getElem_append_right (by omega)
          rw [e, e']
          exact rgt_of (List.pairwise_iff_getElem.1 (asc_puts (t := t) au_) (i - 1 - (dropsP t u).length) (i - (dropsP t u).length) (by omega) (by omega) (by omega))
      have hblk : blkT A again (i : Int) = some true := blk_ok hi (by omega) h1 h2 hg
      rw [if_pos (by simp; omega), ixL_nat hi, get_ok hb ht, Option.bind_some, ixL_nat hi, get_ok hub hu, Option.bind_some]
      dsimp only
      by_cases hd : i < (dropsP t u).length
      · have e : A[i] = (dropsP t u)[i] := by simp only [hA]; exact List.getElem_append_left hd
        obtain ⟨f, hf, hfe⟩ := List.mem_map.1 (List.getElem_mem hd : (dropsP t u)[i] ∈ dropsP t u)
        obtain ⟨hf, hn⟩ := List.mem_filter.1 hf
        have hn : getT u f.1 = none := by simpa using hn
        have hs : getT t f.1 = some f.2 := (getT_iff at_).2 hf
        have eA : A[i] = (f.1, (false, [])) := e.trans hfe.symm
        have k1 : getT t A[i].1 = some f.2 := by rw [eA]; exact hs
        have k2 : getT u A[i].1 = none := by rw [eA]; exact hn
        rw [k1, k2]
        have k3 : A[i].2.1 = false := by rw [eA]
        have k4 : A[i].2.2 = [] := by rw [eA]
        by_cases hq : (f.2 == []) = true
        · rw [if_pos (by exact hq), if_neg (by simp), ixL_nat hi, if_neg (by rw [k3]; simp), ixL_nat hi, if_neg (by rw [k4]; simp)]
          exact hblk
        · rw [if_neg (by exact hq), ixL_nat hi, if_neg (by rw [k3]; simp), ixL_nat hi, if_neg (by rw [k4]; simp)]
          exact hblk
      · have hj : i - (dropsP t u).length < (putsP t u).length := by omega
        have e : A[i] = (putsP t u)[i - (dropsP t u).length] := by simp only [hA]; exact List.getElem_append_right (by omega)
        obtain ⟨g, hg', hge⟩ := List.mem_map.1 (List.getElem_mem hj : (putsP t u)[i - (dropsP t u).length] ∈ putsP t u)
        obtain ⟨hg', hn⟩ := List.mem_filter.1 hg'
        rw [any_get at_] at hn
        have hn : ¬ getT t g.1 = some g.2 := by simpa using hn
        have hs : getT u g.1 = some g.2 := (getT_iff au_).2 hg'
        have eA : A[i] = (g.1, (true, g.2)) := e.trans hge.symm
        have k1 : getT t A[i].1 = getT t g.1 := by rw [eA]
        have k2 : getT u A[i].1 = some g.2 := by rw [eA]; exact hs
        rw [k1, k2]
        have k3 : A[i].2.1 = true := by rw [eA]
        have k4 : A[i].2.2 = g.2 := by rw [eA]
        by_cases hq : ((getT t g.1).getD [] == g.2) = true
        · have hnn : (getT t g.1).isSome = false := by
            cases hh : getT t g.1 with
            | none => rfl
            | some d =>
              rw [hh] at hq hn
              have : d = g.2 := by simpa using hq
              rw [this] at hn
              exact absurd rfl hn
          rw [if_pos (by exact hq), hnn, if_neg (by simp), ixL_nat hi, if_neg (by rw [k3]; simp), ixL_nat hi, if_neg (by rw [k4]; simp)]
          exact hblk
        · rw [if_neg (by exact hq), ixL_nat hi, if_neg (by rw [k3]; simp), ixL_nat hi, if_neg (by rw [k4]; simp)]
          exact hblk
end Go.Proofs.W.Q10
