/- ReconTurned, ReconThree: plain laws. -/
import Derived.Test.YtboeaelijjamoaaGreatDoorK31
import Derived.Test.YtboeaelijjamoaaGreatDoorK32
import Derived.Test.YtboeaelijjamoaaGreatDoorK24
namespace Go.Proofs.W.Q10
open Go Go.Proofs.V Go.Proofs.W.Q9
set_option linter.unusedVariables false
set_option linter.unusedSimpArgs false
end Go.Proofs.W.Q10
namespace Go.Proofs.W.Q10
open Go Go.Proofs.V Go.Proofs.W.Q9
set_option linter.unusedVariables false
set_option linter.unusedSimpArgs false
section
variable {a b : List En} {p : List UInt8} {take : Bool} {n : Int} {k1 k2 : Nat}
end
end Go.Proofs.W.Q10
namespace Go.Proofs.W.Q10
open Go Go.Proofs.V Go.Proofs.W.Q9
set_option linter.unusedVariables false
set_option linter.unusedSimpArgs false
/-- A loop that ends by a measure. -/
theorem loop_meas {S R : Type} {step : (S → Option R) → S → Option R} (μ : S → Nat) (I : S → Prop) (r : Option R) (hstep : ∀ again s, I s → (∀ s', I s' → μ s' < μ s → again s' = r) → step again s = r) {s0 : S} (h0 : I s0) (hm : μ s0 < fuel) : fixS step fuel s0 = r := by
  rw [fixS_eq]
  have key : ∀ k s, I s → μ s < k → fixN step k s = r := by
    intro k
    induction k with
    | zero => intro s _ h; omega
    | succ k ih =>
      intro s hs h
      rw [fixN]
      exact hstep _ s hs fun s' hs' hlt => ih s' hs' (by omega)
  exact key fuel s0 h0 hm
theorem half_ok {R : Type} {n : Nat} (h : n < 4000000000000000000) (f : Int → Option R) : shG .shr .u64 (IntKind.wrap .u64 (IntKind.wrap .i64 (n : Int))) 1 f = f ((n / 2 : Nat) : Int) := by
  unfold shG
  rw [if_neg (by decide), wrapI (by omega) (by omega)]
  have e : IntKind.wrap .u64 (n : Int) = (n : Int) := by
    show (n : Int) % (2 ^ 64 : Int) = (n : Int)
    omega
  rw [e]
  congr 1
  show (n : Int).fdiv (2 ^ (Min.min (1 : Int).toNat 64)) = _
  have : (2 : Int) ^ (Min.min (1 : Int).toNat 64) = 2 := by decide
  rw [this, Int.fdiv_eq_ediv_of_nonneg _ (by decide)]
  omega
theorem cmp_lt : ∀ x y : List UInt8, decide (Lib.compareBytes x y < 0) = Op.bytesLess x y
  | [], [] => rfl
  | [], y :: ys => rfl
  | x :: xs, [] => rfl
  | x :: xs, y :: ys => by
    unfold Lib.compareBytes Op.bytesLess
    split
    · rename_i h; simp [h]
    · rename_i h
      split
      · rename_i h2
        have : x ≠ y := by rintro rfl; exact h h2
        simp [h, this]
      · rename_i h2
        have : x = y := UInt8.le_antisymm (UInt8.not_lt.1 h2) (UInt8.not_lt.1 h)
        subst this
        rw [cmp_lt xs ys]
        simp [UInt8.lt_irrefl]
theorem cmp_eq : ∀ x y : List UInt8, (Lib.compareBytes x y == 0) = (x == y)
  | [], [] => rfl
  | [], y :: ys => rfl
  | x :: xs, [] => rfl
  | x :: xs, y :: ys => by
    unfold Lib.compareBytes
    split
    · rename_i h
      have : x ≠ y := by rintro rfl; exact UInt8.lt_irrefl _ h
      simp [this]
    · rename_i h
      split
      · rename_i h2
        have : x ≠ y := by rintro rfl; exact h h2
        simp [this]
      · rename_i h2
        have : x = y := UInt8.le_antisymm (UInt8.not_lt.1 h2) (UInt8.not_lt.1 h)
        subst this
        rw [cmp_eq xs ys]
        simp
abbrev AscF (t : List Fi) : Prop := Asc (fun f : Fi => f.1) t
theorem place_ok {t : List Fi} (ht : AscF t) (hl : t.length ≤ 1000000) (q : List UInt8) : ∃ k : Nat, k ≤ t.length ∧ (∀ i, (hi : i < t.length) → (Op.bytesLess t[i].1 q = true ↔ i < k)) ∧ tree_place (t, q) = some ((k : Int), if h : k < t.length then t[k].1 == q else false) := by
  obtain ⟨k, hk⟩ : ∃ k, k = t.findIdx fun f => !Op.bytesLess f.1 q := ⟨_, rfl⟩
  have hkl : k ≤ t.length := by rw [hk]; exact List.findIdx_le_length
  have hless : ∀ i, (hi : i < t.length) → (Op.bytesLess t[i].1 q = true ↔ i < k) := by
    intro i hi
    constructor
    · intro h
      rcases Nat.lt_or_ge i k with h1 | h1
      · exact h1
      · exfalso
        have hk2 : k < t.length := by omega
        have h2 : (!Op.bytesLess t[k].1 q) = true := by
          have := List.findIdx_getElem (xs := t) (p := fun f => !Op.bytesLess f.1 q) (w := by rw [← hk]; exact hk2)
          simpa only [← hk] using this
        rcases Nat.lt_or_ge k i with h3 | h3
        · have h4 : Les t[k].1 t[i].1 := List.pairwise_iff_getElem.1 ht k i hk2 hi h3
          rw [Q9.less_trans h4 h] at h2
          cases h2
        · have : i = k := by omega
          subst this
          rw [h] at h2
          cases h2
    · intro h
      have := List.not_of_lt_findIdx (p := fun f : Fi => !Op.bytesLess f.1 q) (xs := t) (i := i) (by rw [← hk]; exact h)
      simpa using this
  refine ⟨k, hkl, hless, ?_⟩
  have h1 : ∀ f : Fi, tree_place_1 (f.1, (f.2, q)) = some (Lib.compareBytes f.1 q) := fun f => rfl
  have key : slices_BinarySearchFunc_string_tree_place_1 (t, q) = some ((k : Int), if h : k < t.length then t[k].1 == q else false) := by
    unfold slices_BinarySearchFunc_string_tree_place_1
    refine loop_meas (fun s => (s.2 - s.1).toNat) (fun s => ∃ lo hi : Nat, s = ((lo : Int), (hi : Int)) ∧ lo ≤ k ∧ k ≤ hi ∧ hi ≤ t.length) _ (fun again s hI ha => ?_) ⟨0, t.length, rfl, by omega, hkl, by omega⟩ (by unfold fuel; simp; omega)
    obtain ⟨lo, hi, rfl, hlo, hhi, hhl⟩ := hI
    dsimp only
    by_cases hlt : lo < hi
    · have e1 : ((lo : Int) + (hi : Int)) = ((lo + hi : Nat) : Int) := by omega
      rw [if_pos (by simp; omega), e1, half_ok (by omega)]
      have hm : (lo + hi) / 2 < t.length := by omega
      rw [wrapI (by omega) (by omega), ixL_nat hm, h1, Option.bind_some, cmp_lt]
      by_cases hc : Op.bytesLess t[(lo + hi) / 2].1 q = true
      · rw [if_pos hc]
        have := (hless _ hm).1 hc
        rw [wrap_succ (by omega)]
        exact ha _ ⟨(lo + hi) / 2 + 1, hi, rfl, by omega, hhi, hhl⟩ (by dsimp only; omega)
      · rw [if_neg hc]
        have : ¬ (lo + hi) / 2 < k := fun h => hc ((hless _ hm).2 h)
        exact ha _ ⟨lo, (lo + hi) / 2, rfl, hlo, by omega, by omega⟩ (by dsimp only; omega)
    · have : lo = k := by omega
      subst this
      rw [if_neg (by simp; omega)]
      by_cases h : lo < t.length
      · rw [if_pos (by simp; omega), ixL_nat h, h1, Option.bind_some, cmp_eq, dif_pos h]
      · rw [if_neg (by simp; omega), dif_neg h]
  unfold tree_place
  show (slices_BinarySearchFunc_string_tree_place_1 (t, q)).bind _ = _
  rw [key]
  rfl
/-- What a tree has at a path. -/
def getT (t : List Fi) (q : List UInt8) : Option (List UInt8) := (t.find? fun f => decide (f.1 = q)).map (·.2)
theorem getT_iff {t : List Fi} (ht : AscF t) {q d : List UInt8} : getT t q = some d ↔ (q, d) ∈ t := by
  unfold getT
  constructor
  · intro h
    obtain ⟨f, hf, rfl⟩ := Option.map_eq_some_iff.1 h
    have h1 := List.mem_of_find?_eq_some hf
    have h2 := List.find?_some hf
    have h2 : f.1 = q := by simpa using h2
    rw [← h2]; exact h1
  · intro h
    cases hf : t.find? fun f => decide (f.1 = q) with
    | none =>
      have := List.find?_eq_none.1 hf (q, d) h
      simp at this
    | some f =>
      have h1 := List.mem_of_find?_eq_some hf
      have h2 := List.find?_some hf
      have h2 : f.1 = q := by simpa using h2
      have := asc_inj ht h1 h (by exact h2)
      rw [this]; rfl
theorem getT_none {t : List Fi} {q : List UInt8} : getT t q = none ↔ ∀ f ∈ t, f.1 ≠ q := by
  unfold getT
  rw [Option.map_eq_none_iff, List.find?_eq_none]
  simp
theorem treeX_asc {t : List Fi} (h : TreeX t) : AscF t := asc_of _ t h.up
theorem findT_cases {t : List Fi} (hb : ∀ g ∈ t, g.1.length ≤ 1000000) (hR : TreeX t) (q : List UInt8) : (getT t q = none ∧ tree_Find (t, q) = some (-1)) ∨ ∃ k, ∃ hk : k < t.length, t[k].1 = q ∧ getT t q = some t[k].2 ∧ tree_Find (t, q) = some (k : Int) := by
  have hl := hR.len
  have ha := treeX_asc hR
  obtain ⟨k, hkl, hless, hp⟩ := place_ok ha (by omega) q
  have hn : (∀ f ∈ t, f.1 ≠ q) ∨ ∃ h : k < t.length, t[k].1 = q := by
    by_cases h : ∃ h : k < t.length, t[k].1 = q
    · exact .inr h
    · refine .inl fun f hf hq => h ?_
      obtain ⟨i, hi, rfl⟩ := List.getElem_of_mem hf
      have h1 : ¬ i < k := fun hik => by
        have := (hless i hi).2 hik
        rw [hq, less_irrefl] at this
        cases this
      have h2 : ¬ k < i := fun hki => by
        have h3 : Les t[k].1 t[i].1 := List.pairwise_iff_getElem.1 ha k i (by omega) hi hki
        rw [hq] at h3
        have := (hless k (by omega)).1 h3
        omega
      have : i = k := by omega
      subst this
      exact ⟨hi, hq⟩
  rcases hn with hn | ⟨hk, hq⟩
  · refine .inl ⟨getT_none.2 hn, ?_⟩
    unfold tree_Find
    dsimp only
    rw [hp, Option.bind_some]
    rw [if_neg]
    by_cases h : k < t.length
    · rw [dif_pos h]
      have := hn _ (List.getElem_mem h)
      simpa using this
    · rw [dif_neg h]; simp
  · refine .inr ⟨k, hk, hq, (getT_iff ha).2 (by rw [← hq]; exact List.getElem_mem hk), ?_⟩
    unfold tree_Find
    dsimp only
    rw [hp, Option.bind_some, if_pos (by rw [dif_pos hk, hq]; simp), treeX_back hb hR, Option.bind_some, if_pos rfl]
theorem get_ok {t : List Fi} (hb : ∀ g ∈ t, g.1.length ≤ 1000000) (hR : TreeX t) (q : List UInt8) : tree_Get (t, q) = some ((getT t q).getD [], (getT t q).isSome) := by
  unfold tree_Get
  dsimp only
  rcases findT_cases hb hR q with ⟨g, f⟩ | ⟨k, hk, hq, g, f⟩
  · rw [f, Option.bind_some, if_pos (by decide), g]
    rfl
  · rw [f, Option.bind_some, if_neg (by simp), ixL_nat hk, g]
    rfl
theorem fits40 {n : Nat} (h : n ≤ 600000000) : fitsB 40 (n : Int) = true := by
  unfold fitsB
  simp only [Int.toNat_natCast, Bool.and_eq_true, decide_eq_true_eq]
  omega
abbrev Ac := List UInt8 × (Bool × List UInt8)
end Go.Proofs.W.Q10
namespace Go.Proofs.W.Q10
open Go Go.Proofs.V Go.Proofs.W.Q9
set_option linter.unusedVariables false
set_option linter.unusedSimpArgs false
theorem all_loopK {α : Type} {l : List α} {p : α → Bool} {step : (Int → Option Bool) → Int → Option Bool} (K : Option Bool) (hl : l.length < 1000000000) (hlast : ∀ again, step again (l.length : Int) = K) (hstep : ∀ i, (hi : i < l.length) → ∀ again, step again (i : Int) = if p l[i] = true then again ((i + 1 : Nat) : Int) else some false) : fixS step fuel 0 = if l.all p = true then K else some false := by
  refine loop_run l.length (fun i s => s = (i : Int) ∧ (l.take i).all p = true) _ (by omega) (fun again s hI => ?_) (fun i hi again s hI ha => ?_) ⟨rfl, rfl⟩
  · obtain ⟨rfl, h⟩ := hI
    rw [List.take_length] at h
    rw [hlast, if_pos h]
  · obtain ⟨rfl, h⟩ := hI
    rw [hstep i hi]
    cases hp : p l[i] with
    | true => 
      rw [if_pos rfl]
      exact ha _ ⟨rfl, by rw [all_take hi, h, hp]; rfl⟩
    | false =>
      rw [if_neg (by simp), if_neg]
      rw [List.all_eq_true]
      intro hall
      rw [hall _ (List.getElem_mem hi)] at hp
      cases hp
theorem less_append : ∀ (q : List UInt8) (c : UInt8) (r : List UInt8), Op.bytesLess q (q ++ c :: r) = true
  | [], c, r => rfl
  | x :: q, c, r => by
    rw [List.cons_append]
    unfold Op.bytesLess
    rw [less_append q c r]
    simp
theorem under_less {p q : List UInt8} (h : underB p q = true) : Op.bytesLess q p = true := by
  unfold underB at h
  cases hu : path_Under (p, q) with
  | none => rw [hu] at h; cases h
  | some r =>
    rw [hu] at h
    have h : r = true := h
    subst h
    unfold path_Under at hu
    dsimp only at hu
    obtain ⟨r1, _, hu⟩ := bind_true hu
    split at hu
    case isFalse => cases hu
    obtain ⟨r2, _, hu⟩ := bind_true hu
    split at hu
    case isFalse => cases hu
    split at hu
    case isFalse => cases hu
    split at hu
    case isFalse => cases hu
    obtain ⟨r3, hu, h3⟩ := bind_true hu
    cases h3
    unfold strings_HasPrefix stringslite_HasPrefix at hu
    dsimp only at hu
    obtain ⟨r4, hu, h4⟩ := bind_true hu
    cases h4
    split at hu
    case isFalse => cases hu
    unfold cutL at hu
    split at hu
    case isFalse => cases hu
    rename_i hle
    simp only [Int.toNat_natCast, Option.some.injEq, beq_iff_eq] at hu
    have e : p = (q ++ [47]) ++ p.drop (q ++ [47]).length := by
      have h1 := List.take_append_drop (q ++ [47]).length p
      have hu2 : p.take (q ++ [47]).length = q ++ [47] := by simpa using hu
      rw [hu2] at h1
      exact h1.symm
    rw [e, List.append_assoc]
    exact less_append q 47 _
noncomputable def okAt (t : List Fi) (i : Nat) : Bool :=
  if h : i < t.length then pathB t[i].1 && (decide (t[i].2.length ≤ 600) && ((decide (i = 0) || !(Op.bytesLess t[i].1 (t[i-1]'(by omega)).1 || t[i].1 == (t[i-1]'(by omega)).1)) && (t.take i).all fun g => !underB t[i].1 g.1)) else true
theorem treeX_iff {t : List Fi} (hb : ∀ g ∈ t, g.1.length ≤ 1000000) : (decide (t.length ≤ 16) && (List.range t.length).all (okAt t)) = true ↔ TreeX t := by
  have hat : ∀ i, (h : i < t.length) → okAt t i = (pathB t[i].1 && (decide (t[i].2.length ≤ 600) && ((decide (i = 0) || !(Op.bytesLess t[i].1 (t[i-1]'(by omega)).1 || t[i].1 == (t[i-1]'(by omega)).1)) && (t.take i).all fun g => !underB t[i].1 g.1))) := fun i h => by unfold okAt; rw [dif_pos h]
  rw [Bool.and_eq_true, decide_eq_true_eq, List.all_eq_true]
  constructor
  · rintro ⟨hl, hall⟩
    have key : ∀ i, (h : i < t.length) → pathB t[i].1 = true ∧ t[i].2.length ≤ 600 ∧ (i = 0 ∨ (Op.bytesLess t[i].1 (t[i-1]'(by omega)).1 || t[i].1 == (t[i-1]'(by omega)).1) = false) ∧ ∀ g ∈ t.take i, underB t[i].1 g.1 = false := by
      intro i h
      have h1 := hall i (List.mem_range.2 h)
      rw [hat i h] at h1
      simp only [Bool.and_eq_true, decide_eq_true_eq, Bool.or_eq_true, List.all_eq_true, Bool.not_eq_true'] at h1
      exact ⟨h1.1, h1.2.1, h1.2.2.1, h1.2.2.2⟩
    have hup : ∀ i, (h : i + 1 < t.length) → rgt t[i+1].1 t[i].1 := fun i h => by
      have h1 := (key (i + 1) h).2.2.1
      rcases h1 with h1 | h1
      · omega
      · exact h1
    have hasc : AscF t := asc_of _ t hup
    refine ⟨hl, fun f hf => ?_, fun f hf => ?_, hup, fun f hf g hg => ?_⟩
    · obtain ⟨i, hi, rfl⟩ := List.getElem_of_mem hf
      rw [right_ok (hb _ hf), (key i hi).1]
    · obtain ⟨i, hi, rfl⟩ := List.getElem_of_mem hf
      exact (key i hi).2.1
    · obtain ⟨i, hi, rfl⟩ := List.getElem_of_mem hf
      obtain ⟨j, hj, rfl⟩ := List.getElem_of_mem hg
      by_cases h : j < i
      · exact (key i hi).2.2.2 _ (by rw [List.mem_take_iff_getElem]; exact ⟨j, by omega, rfl⟩)
      · cases hu : underB t[i].1 t[j].1 with
        | false => rfl
        | true =>
          have h1 := under_less hu
          rcases Nat.lt_or_ge i j with h2 | h2
          · have h3 : Les t[i].1 t[j].1 := List.pairwise_iff_getElem.1 hasc i j hi hj h2
            have := Q9.less_trans h1 h3
            rw [less_irrefl] at this
            cases this
          · have : i = j := by omega
            subst this
            rw [less_irrefl] at h1
            cases h1
  · intro h
    refine ⟨h.len, fun i hi => ?_⟩
    have hi := List.mem_range.1 hi
    have hp := h.path _ (List.getElem_mem hi)
    rw [right_ok (hb _ (List.getElem_mem hi))] at hp
    rw [hat i hi]
    simp only [Bool.and_eq_true, decide_eq_true_eq, Bool.or_eq_true, List.all_eq_true, Bool.not_eq_true']
    refine ⟨Option.some.inj hp, h.data _ (List.getElem_mem hi), ?_, fun g hg => h.no _ (List.getElem_mem hi) g (List.mem_of_mem_take hg)⟩
    by_cases h0 : i = 0
    · exact .inl h0
    · right
      have h1 := h.up (i - 1) (by omega)
      have e : i - 1 + 1 = i := by omega
      simp only [e] at h1
      exact h1
theorem tree_dec {t : List Fi} (hb : ∀ g ∈ t, g.1.length ≤ 1000000) : tree_Right t = some (decide (t.length ≤ 16) && (List.range t.length).all (okAt t)) := by
  obtain ⟨r, hr⟩ := treeRight_ends t hb
  rw [hr]
  congr 1
  cases r with
  | true => exact ((treeX_iff hb).2 (treeX_fwd hb hr)).symm
  | false =>
    cases h : (decide (t.length ≤ 16) && (List.range t.length).all (okAt t)) with
    | false => rfl
    | true =>
      rw [treeX_back hb ((treeX_iff hb).1 h)] at hr
      cases hr
theorem reftree_ok {t : List Fi} (hb : ∀ g ∈ t, g.1.length ≤ 1000000) : ref04_Right t = tree_Right t := by
  rw [tree_dec hb]
  unfold ref04_Right
  by_cases hl : t.length ≤ 16
  · rw [if_neg (by simp; omega), decide_eq_true hl, Bool.true_and]
    refine (all_loop (l := List.range t.length) (p := okAt t) true (by simp; omega) (fun again => by rw [if_neg (by simp)]) (fun i hi again => ?_)).trans (by rw [Bool.and_true])
    have hi' : i < t.length := by simpa using hi
    rw [List.getElem_range]
    have hbi := hb _ (List.getElem_mem hi')
    have inner : fixS (S := Int) (R := Bool) (fun again8 s9 => if decide (s9 < (i : Int)) = true then ixL t (i : Int) fun x10 => ixL t s9 fun x11 => (ref03_Under (x10.1, x11.1)).bind fun r12 => if r12 = true then some false else again8 (IntKind.wrap .i64 (s9 + 1)) else again (IntKind.wrap .i64 ((i : Int) + 1))) fuel 0 = if (t.take i).all (fun g => !underB t[i].1 g.1) = true then again ((i + 1 : Nat) : Int) else some false := by
      refine all_loopK (l := t.take i) (p := fun g => !underB t[i].1 g.1) _ (by simp; omega) (fun again' => ?_) (fun j hj again' => ?_)
      · have e : ((t.take i).length : Int) = (i : Int) := by rw [List.length_take]; omega
        rw [e, if_neg (by simp), wrap_succ (by omega)]
      · rw [List.length_take] at hj
        rw [if_pos (by simp; omega), ixL_nat hi', ixL_nat (by omega), wrap_succ (by omega)]
        have hbj := hb _ (List.getElem_mem (show j < t.length by omega))
        rw [refunder_ok hbi hbj, under_ok hbi hbj, Option.bind_some, List.getElem_take]
        cases underB t[i].1 t[j].1 <;> rfl
    have hat : okAt t i = (pathB t[i].1 && (decide (t[i].2.length ≤ 600) && ((decide (i = 0) || !(Op.bytesLess t[i].1 (t[i-1]'(by omega)).1 || t[i].1 == (t[i-1]'(by omega)).1)) && (t.take i).all fun g => !underB t[i].1 g.1))) := by unfold okAt; rw [dif_pos hi']
    rw [if_pos (by simp; omega), ixL_nat hi', refright_ok hbi, Option.bind_some, hat]
    cases h1 : pathB t[i].1 with
    | false => rfl
    | true =>
      rw [if_neg (by simp), ixL_nat hi', Bool.true_and]
      by_cases h2 : t[i].2.length ≤ 600
      · rw [if_neg (by simp; omega), decide_eq_true h2, Bool.true_and]
        by_cases h0 : 0 < i
        · rw [if_pos (by simp; omega), ixL_nat hi', pred64 h0 (by omega), ixL_nat (by omega), decide_eq_false (by omega : ¬ i = 0), Bool.false_or]
          by_cases h3 : (Op.bytesLess t[i].1 t[i-1].1 || t[i].1 == t[i-1].1) = true
          · rw [if_pos h3, h3]; rfl
          · rw [if_neg h3, inner]
            have h3 : (Op.bytesLess t[i].1 t[i-1].1 || t[i].1 == t[i-1].1) = false := by simpa using h3
            rw [h3]; rfl
        · rw [if_neg (by simp; omega), inner, decide_eq_true (by omega : i = 0)]
          rfl
      · rw [if_pos (by simp; omega), decide_eq_false h2]
        rfl
  · rw [if_pos (by simp; omega), decide_eq_false hl]
    rfl
end Go.Proofs.W.Q10
namespace Go.Proofs.W.Q10
open Go Go.Proofs.V Go.Proofs.W.Q9
set_option linter.unusedVariables false
set_option linter.unusedSimpArgs false
end Go.Proofs.W.Q10
namespace Go.Proofs.W.Q10
open Go Go.Proofs.V Go.Proofs.W.Q9
set_option linter.unusedVariables false
set_option linter.unusedSimpArgs false
end Go.Proofs.W.Q10
namespace Go.Proofs.W.Q10
open Go Go.Proofs.V Go.Proofs.W.Q9
set_option linter.unusedVariables false
set_option linter.unusedSimpArgs false
end Go.Proofs.W.Q10
namespace Go.Proofs.W.Q10
open Go Go.Proofs.V Go.Proofs.W.Q9
set_option linter.unusedVariables false
set_option linter.unusedSimpArgs false
theorem idxP_at {α : Type} (b : α → Bool) : ∀ (l : List α) (i k : Nat), (hk : k < l.length) → b l[k] = true → (∀ j, (hj : j < l.length) → j < k → b l[j] = false) → idxP b l i = ((i + k : Nat) : Int)
  | [], i, k, hk, _, _ => by simp at hk
  | x :: l, i, 0, hk, h, _ => by
    have h : b x = true := h
    unfold idxP
    rw [if_pos h]; rfl
  | x :: l, i, k + 1, hk, h, hn => by
    have h0 : b x = false := hn 0 (by simp) (by omega)
    unfold idxP
    rw [if_neg (by rw [h0]; simp), idxP_at b l (i + 1) k (by simpa using hk) (by simpa using h) (fun j hj hjk => by have h1 := hn (j + 1) (by simp; omega) (by omega); exact h1)]
    congr 1
    omega
theorem idxP_none {α : Type} (b : α → Bool) : ∀ (l : List α) (i : Nat), (∀ x ∈ l, b x = false) → idxP b l i = -1
  | [], i, _ => rfl
  | x :: l, i, h => by
    unfold idxP
    rw [if_neg (by rw [h x (by simp)]; simp), idxP_none b l (i + 1) fun y hy => h y (by simp [hy])]
theorem refget_ok {t : List Fi} (hb : ∀ g ∈ t, g.1.length ≤ 1000000) (hR : TreeX t) (q : List UInt8) : ref04_Get (t, q) = some ((getT t q).getD [], (getT t q).isSome) := by
  have hl := hR.len
  have ha := treeX_asc hR
  have hidx : ref04_find (t, q) = some (idxP (fun f : Fi => f.1 == q) t 0) := by
    unfold ref04_find
    exact index_loop t (fun x3 : Fi => some (x3.1 == q)) (fun f => f.1 == q) (by omega) fun x hx => rfl
  unfold ref04_Get ref04_Find
  dsimp only
  rw [reftree_ok hb, treeX_back hb hR, Option.bind_some, if_neg (by simp), hidx]
  rcases findT_cases hb hR q with ⟨g, _⟩ | ⟨k, hk, hq, g, _⟩
  · rw [idxP_none _ t 0 fun x hx => by simpa using getT_none.1 g x hx]
    rw [g]; rfl
  · rw [idxP_at (fun f : Fi => f.1 == q) t 0 k hk (by simpa using hq) (fun j hj hjk => by
      have := asc_ne ha hj hk (by omega)
      rw [hq] at this
      simpa using this)]
    simp only [Option.bind_some, Nat.zero_add]
    rw [if_neg (by simp), ixL_nat hk, g]
    rfl
theorem acts_refl (a : List Ac) (hl : a.length < 1000000000) : ref10_Acts (a, a) = some true := by
  unfold ref10_Acts
  dsimp only
  rw [if_neg (by simp)]
  refine loop_true a.length (by omega) (fun again => by rw [if_neg (by simp)]) fun i hi again ha => ?_
  rw [if_pos (by simp; omega), ixL_nat hi, ixL_nat hi, wrap_succ (by omega), if_neg (by simp), ha]
end Go.Proofs.W.Q10
namespace Go.Proofs.W.Q10
open Go Go.Proofs.V Go.Proofs.W.Q9
set_option linter.unusedVariables false
set_option linter.unusedSimpArgs false
end Go.Proofs.W.Q10
namespace Go.Proofs.W.Q10
open Go Go.Proofs.V Go.Proofs.W.Q9
set_option linter.unusedVariables false
set_option linter.unusedSimpArgs false
/-- A loop that looks for the first. -/
theorem first_loop {α R : Type} (l : List α) (p : α → Bool) {step : (Int → Option R) → Int → Option R} (K : Nat → Option R) (hl : l.length < 1000000000)
    (hlast : ∀ again, step again (l.length : Int) = K l.length)
    (hstep : ∀ i, (hi : i < l.length) → ∀ again, step again (i : Int) = if p l[i] = true then again ((i + 1 : Nat) : Int) else K i) : fixS step fuel 0 = K (l.takeWhile p).length := by
  have := fixS_idx (step := step) l.length (fun i => K (i + ((l.drop i).takeWhile p).length)) (by omega) (fun again => by simp [hlast]) (fun i hi again ha => by
    rw [hstep i hi, List.drop_eq_getElem_cons hi, List.takeWhile_cons]
    cases hp : p l[i] with
    | true =>
      rw [if_pos rfl, if_pos rfl, ha, List.length_cons]
      congr 1
      omega
    | false => rw [if_neg (by simp), if_neg (by simp)]; rfl)
  rw [this]
  simp
theorem takeLen {α : Type} (p : α → Bool) : ∀ l : List α, l.take (l.takeWhile p).length = l.takeWhile p ∧ l.drop (l.takeWhile p).length = l.dropWhile p
  | [] => ⟨rfl, rfl⟩
  | x :: l => by
    rw [List.takeWhile_cons, List.dropWhile_cons]
    cases h : p x with
    | true =>
      rw [if_pos rfl, if_pos rfl]
      obtain ⟨h1, h2⟩ := takeLen p l
      exact ⟨by rw [List.length_cons, List.take_succ_cons, h1], by rw [List.length_cons, List.drop_succ_cons, h2]⟩
    | false => exact ⟨by simp, by simp⟩
theorem insK_at (q : List UInt8) : ∀ out : List (List UInt8), insK q out = match out.dropWhile (fun x => Op.bytesLess x q) with
    | [] => out.takeWhile (fun x => Op.bytesLess x q) ++ [q]
    | x :: r => if x = q then out else out.takeWhile (fun x => Op.bytesLess x q) ++ [q] ++ (x :: r)
  | [] => rfl
  | k :: ks => by
    rw [List.dropWhile_cons, List.takeWhile_cons]
    cases h : Op.bytesLess k q with
    | true =>
      rw [if_pos rfl, if_pos rfl]
      have h1 : ¬ Op.bytesLess q k = true := by rw [less_asymm h]; simp
      have h2 : ¬ q = k := fun e => by rw [e, less_irrefl] at h; cases h
      rw [insK, if_neg h1, if_neg h2, insK_at q ks]
      cases ks.dropWhile (fun x => Op.bytesLess x q) with
      | nil => rfl
      | cons x r =>
        dsimp only
        split <;> rfl
    | false =>
      rw [if_neg (by simp), if_neg (by simp)]
      dsimp only
      rw [insK]
      by_cases h1 : Op.bytesLess q k = true
      · rw [if_pos h1, if_neg (fun e => by rw [e, less_irrefl] at h1; cases h1)]
        rfl
      · rw [if_neg h1]
        by_cases h2 : q = k
        · rw [if_pos h2, if_pos h2.symm]
        · exact absurd (Q9.less_total (by simpa using h1) h2) (by rw [h]; simp)
theorem len_insK (q : List UInt8) : ∀ ks, (insK q ks).length ≤ ks.length + 1
  | [] => by simp [insK]
  | k :: ks => by
    have := len_insK q ks
    unfold insK
    split
    · simp
    · split
      · simp
      · simp; omega
theorem cutG_at {A R : Type} {l : List A} {a b : Nat} (h1 : a ≤ b) (h2 : b ≤ l.length) (f : List A → Option R) : cutL l (a : Int) (b : Int) f = f ((l.take b).drop a) := by
  unfold cutL
  rw [if_pos ⟨by omega, by omega, by omega⟩, Int.toNat_natCast, Int.toNat_natCast]
/-- A path put into its place. -/
theorem ins_loop {R : Type} (out : List (List UInt8)) (q : List UInt8) (hl : out.length ≤ 1000000) (again1 : List (List UInt8) → Option R) :
    fixS (S := Int) (R := R) (fun again4 s5 =>
          if decide (s5 < (out.length : Int)) then
            ixL out s5 fun x6 =>
            if (Op.bytesLess x6 q) then
              again4 (IntKind.wrap .i64 (s5 + 1))
            else
              if (s5 == (out.length : Int)) then
                cutL out 0 s5 fun y7 =>
                if (fitsB 16 (([] ++ y7).length : Int)) then
                  if (fitsB 16 ((([] ++ y7) ++ [q]).length : Int)) then
                    cutL out s5 (out.length : Int) fun y8 =>
                    if (fitsB 16 (((([] ++ y7) ++ [q]) ++ y8).length : Int)) then
                      again1 (((([] ++ y7) ++ [q]) ++ y8))
                    else none
                  else none
                else none
              else
                ixL out s5 fun x9 =>
                if (!(x9 == q)) then
                  cutL out 0 s5 fun y10 =>
                  if (fitsB 16 (([] ++ y10).length : Int)) then
                    if (fitsB 16 ((([] ++ y10) ++ [q]).length : Int)) then
                      cutL out s5 (out.length : Int) fun y11 =>
                      if (fitsB 16 (((([] ++ y10) ++ [q]) ++ y11).length : Int)) then
                        again1 (((([] ++ y10) ++ [q]) ++ y11))
                      else none
                    else none
                  else none
                else
                  again1 out
          else
            if (s5 == (out.length : Int)) then
              cutL out 0 s5 fun y12 =>
              if (fitsB 16 (([] ++ y12).length : Int)) then
                if (fitsB 16 ((([] ++ y12) ++ [q]).length : Int)) then
                  cutL out s5 (out.length : Int) fun y13 =>
                  if (fitsB 16 (((([] ++ y12) ++ [q]) ++ y13).length : Int)) then
                    again1 (((([] ++ y12) ++ [q]) ++ y13))
                  else none
                else none
              else none
            else
              ixL out s5 fun x14 =>
              if (!(x14 == q)) then
                cutL out 0 s5 fun y15 =>
                if (fitsB 16 (([] ++ y15).length : Int)) then
                  if (fitsB 16 ((([] ++ y15) ++ [q]).length : Int)) then
                    cutL out s5 (out.length : Int) fun y16 =>
                    if (fitsB 16 (((([] ++ y15) ++ [q]) ++ y16).length : Int)) then
                      again1 (((([] ++ y15) ++ [q]) ++ y16))
                    else none
                  else none
                else none
              else
                again1 out) fuel 0 = again1 (insK q out) := by
  have key : ∀ i, i ≤ out.length → (cutL out 0 (i : Int) fun y7 =>
                if (fitsB 16 (([] ++ y7).length : Int)) = true then
                  if (fitsB 16 ((([] ++ y7) ++ [q]).length : Int)) = true then
                    cutL out (i : Int) (out.length : Int) fun y8 =>
                    if (fitsB 16 (((([] ++ y7) ++ [q]) ++ y8).length : Int)) = true then
                      again1 (((([] ++ y7) ++ [q]) ++ y8))
                    else none
                  else none
                else none) = again1 (out.take i ++ [q] ++ out.drop i) := fun i hi => by
    have h0 := cutG_at (l := out) (R := R) (a := 0) (b := i) (by omega) hi
    rw [show ((0 : Nat) : Int) = 0 from rfl] at h0
    rw [h0, List.drop_zero, if_pos (Q9.fits16 (by simp; omega)), if_pos (Q9.fits16 (by simp; omega)), cutG_at hi (Nat.le_refl _), if_pos (Q9.fits16 (by simp; omega)), List.take_length]
    rfl
  rw [first_loop out (fun x => Op.bytesLess x q) (K := fun i => match out.drop i with
    | [] => again1 (out.take i ++ [q] ++ [])
    | x :: r => if x = q then again1 out else again1 (out.take i ++ [q] ++ (x :: r))) (by omega)
    (fun again => by
      rw [if_neg (by simp), if_pos (by simp), key _ (Nat.le_refl _), List.drop_length])
    (fun i hi again => by
      rw [if_pos (by simp; omega), ixL_nat hi, wrap_succ (by omega)]
      cases h : Op.bytesLess out[i] q with
      | true => rfl
      | false =>
        have hd : out.drop i = out[i] :: out.drop (i + 1) := List.drop_eq_getElem_cons hi
        by_cases he : out[i] = q
        · rw [if_neg (by simp), if_neg (by simp; omega), ixL_nat hi, if_neg (by simp [he]), if_neg (by simp), hd]
          dsimp only
          rw [if_pos he]
        · rw [if_neg (by simp), if_neg (by simp; omega), ixL_nat hi, if_pos (by simp [he]), key i (by omega), if_neg (by simp), hd]
          dsimp only
          rw [if_neg he])]
  obtain ⟨h1, h2⟩ := takeLen (fun x => Op.bytesLess x q) out
  rw [insK_at]
  rw [h1, h2]
  cases out.dropWhile (fun x => Op.bytesLess x q) with
  | nil => dsimp only; rw [List.append_nil]
  | cons x r =>
    dsimp only
    split <;> rfl
/-- Paths of a row, in order, each once. -/
def sortP (ps : List (List UInt8)) : List (List UInt8) := ps.foldl (fun o q => insK q o) []
theorem sortP_take {ps : List (List UInt8)} {i : Nat} (h : i < ps.length) : sortP (ps.take (i + 1)) = insK ps[i] (sortP (ps.take i)) := by
  unfold sortP
  rw [← List.take_append_getElem h, List.foldl_append]
  rfl
theorem sortP_len (ps : List (List UInt8)) : (sortP ps).length ≤ ps.length := by
  unfold sortP
  have : ∀ (ps : List (List UInt8)) (o : List (List UInt8)), (ps.foldl (fun o q => insK q o) o).length ≤ o.length + ps.length := by
    intro ps
    induction ps with
    | nil => intro o; simp
    | cons q ps ih => intro o; have := ih (insK q o); have := len_insK q o; simp only [List.foldl_cons, List.length_cons]; omega
  have := this ps []
  simpa using this
theorem sortP_up (ps : List (List UInt8)) : Up (sortP ps) := by
  unfold sortP
  have : ∀ (ps : List (List UInt8)) (o : List (List UInt8)), Up o → Up (ps.foldl (fun o q => insK q o) o) := by
    intro ps
    induction ps with
    | nil => intro o h; exact h
    | cons q ps ih => intro o h; exact ih _ (up_insK q h)
  exact this ps [] List.Pairwise.nil
theorem sortP_mem (ps : List (List UInt8)) (q : List UInt8) : q ∈ sortP ps ↔ q ∈ ps := by
  unfold sortP
  have : ∀ (ps : List (List UInt8)) (o : List (List UInt8)), q ∈ (ps.foldl (fun o q => insK q o) o) ↔ q ∈ o ∨ q ∈ ps := by
    intro ps
    induction ps with
    | nil => intro o; simp
    | cons p ps ih =>
      intro o
      rw [List.foldl_cons, ih, mem_insK, List.mem_cons]
      constructor
      · rintro ((h | h) | h)
        · exact .inr (.inl h)
        · exact .inl h
        · exact .inr (.inr h)
      · rintro (h | h | h)
        · exact .inl (.inr h)
        · exact .inl (.inl h)
        · exact .inr h
  simpa using this ps []
end Go.Proofs.W.Q10
