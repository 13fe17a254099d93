/- ReconTurned, ReconThree: plain laws. -/
import Derived.Test.YtnjfjjmlonalhaaDoorK32
import Derived.Test.YtnjfjjmlonalhaaDoorK33
import Derived.Test.YtnjfjjmlonalhaaDoorK21
namespace Go.Proofs.W.Q10
open Go Go.Proofs.V Go.Proofs.W.Q9
set_option linter.unusedVariables false
set_option linter.unusedSimpArgs false
end Go.Proofs.W.Q10
namespace Go.Proofs.W.Q10
open Go Go.Proofs.V Go.Proofs.W.Q9
set_option linter.unusedVariables false
set_option linter.unusedSimpArgs false
theorem find_cases {l : List En} (hR : RightS l) (q : List UInt8) : (getL l q = none ∧ scan_Find (l, q) = some (-1)) ∨ ∃ k, ∃ hk : k < l.length, l[k].1 = q ∧ getL l q = some l[k] ∧ scan_Find (l, q) = some (k : Int) := by
  have hl := hR.len
  have ha := RightS.asc hR
  cases hg : getL l q with
  | none => exact .inl ⟨rfl, find_none (right_back hR) (by omega) (getL_none.1 hg)⟩
  | some e =>
    obtain ⟨he, hq⟩ := getL_some hg
    obtain ⟨k, hk, rfl⟩ := List.getElem_of_mem he
    refine .inr ⟨k, hk, hq, rfl, ?_⟩
    rw [← hq]
    exact find_some (right_back hR) (by omega) hk fun i hi hne => asc_ne ha hi hk hne
section
variable {a b : List En} {p : List UInt8} {take : Bool} {n : Int} {k1 k2 : Nat}
end
end Go.Proofs.W.Q10
namespace Go.Proofs.W.Q10
open Go Go.Proofs.V Go.Proofs.W.Q9
set_option linter.unusedVariables false
set_option linter.unusedSimpArgs false
/-- A loop that ends by a measure. -/
theorem loop_meas {S R : Type} {step : (S → Option R) → S → Option R} (μ : S → Nat) (I : S → Prop) (r : Option R) (hstep : ∀ again s, I s → (∀ s', I s' → μ s' < μ s → again s' = r) → step again s = r) {s0 : S} (h0 : I s0) (hm : μ s0 < fuel) : fixS step fuel s0 = r := by
  rw [fixS_eq]
  have key : ∀ k s, I s → μ s < k → fixN step k s = r := by
    intro k
    induction k with
    | zero => intro s _ h; omega
    | succ k ih =>
      intro s hs h
      rw [fixN]
      exact hstep _ s hs fun s' hs' hlt => ih s' hs' (by omega)
  exact key fuel s0 h0 hm
theorem half_ok {R : Type} {n : Nat} (h : n < 4000000000000000000) (f : Int → Option R) : shG .shr .u64 (IntKind.wrap .u64 (IntKind.wrap .i64 (n : Int))) 1 f = f ((n / 2 : Nat) : Int) := by
  unfold shG
  rw [if_neg (by decide), wrapI (by omega) (by omega)]
  have e : IntKind.wrap .u64 (n : Int) = (n : Int) := by
    show (n : Int) % (2 ^ 64 : Int) = (n : Int)
    omega
  rw [e]
  congr 1
  show (n : Int).fdiv (2 ^ (Min.min (1 : Int).toNat 64)) = _
  have : (2 : Int) ^ (Min.min (1 : Int).toNat 64) = 2 := by decide
  rw [this, Int.fdiv_eq_ediv_of_nonneg _ (by decide)]
  omega
theorem cmp_lt : ∀ x y : List UInt8, decide (Lib.compareBytes x y < 0) = Op.bytesLess x y
  | [], [] => rfl
  | [], y :: ys => rfl
  | x :: xs, [] => rfl
  | x :: xs, y :: ys => by
    unfold Lib.compareBytes Op.bytesLess
    split
    · rename_i h; simp [h]
    · rename_i h
      split
      · rename_i h2
        have : x ≠ y := by rintro rfl; exact h h2
        simp [h, this]
      · rename_i h2
        have : x = y := UInt8.le_antisymm (UInt8.not_lt.1 h2) (UInt8.not_lt.1 h)
        subst this
        rw [cmp_lt xs ys]
        simp [UInt8.lt_irrefl]
theorem cmp_eq : ∀ x y : List UInt8, (Lib.compareBytes x y == 0) = (x == y)
  | [], [] => rfl
  | [], y :: ys => rfl
  | x :: xs, [] => rfl
  | x :: xs, y :: ys => by
    unfold Lib.compareBytes
    split
    · rename_i h
      have : x ≠ y := by rintro rfl; exact UInt8.lt_irrefl _ h
      simp [this]
    · rename_i h
      split
      · rename_i h2
        have : x ≠ y := by rintro rfl; exact h h2
        simp [this]
      · rename_i h2
        have : x = y := UInt8.le_antisymm (UInt8.not_lt.1 h2) (UInt8.not_lt.1 h)
        subst this
        rw [cmp_eq xs ys]
        simp
abbrev AscF (t : List Fi) : Prop := Asc (fun f : Fi => f.1) t
theorem place_ok {t : List Fi} (ht : AscF t) (hl : t.length ≤ 1000000) (q : List UInt8) : ∃ k : Nat, k ≤ t.length ∧ (∀ i, (hi : i < t.length) → (Op.bytesLess t[i].1 q = true ↔ i < k)) ∧ tree_place (t, q) = some ((k : Int), if h : k < t.length then t[k].1 == q else false) := by
  obtain ⟨k, hk⟩ : ∃ k, k = t.findIdx fun f => !Op.bytesLess f.1 q := ⟨_, rfl⟩
  have hkl : k ≤ t.length := by rw [hk]; exact List.findIdx_le_length
  have hless : ∀ i, (hi : i < t.length) → (Op.bytesLess t[i].1 q = true ↔ i < k) := by
    intro i hi
    constructor
    · intro h
      rcases Nat.lt_or_ge i k with h1 | h1
      · exact h1
      · exfalso
        have hk2 : k < t.length := by omega
        have h2 : (!Op.bytesLess t[k].1 q) = true := by
          have := List.findIdx_getElem (xs := t) (p := fun f => !Op.bytesLess f.1 q) (w := by rw [← hk]; exact hk2)
          simpa only [← hk] using this
        rcases Nat.lt_or_ge k i with h3 | h3
        · have h4 : Les t[k].1 t[i].1 := List.pairwise_iff_getElem.1 ht k i hk2 hi h3
          rw [Q9.less_trans h4 h] at h2
          cases h2
        · have : i = k := by omega
          subst this
          rw [h] at h2
          cases h2
    · intro h
      have := List.not_of_lt_findIdx (p := fun f : Fi => !Op.bytesLess f.1 q) (xs := t) (i := i) (by rw [← hk]; exact h)
      simpa using this
  refine ⟨k, hkl, hless, ?_⟩
  have h1 : ∀ f : Fi, tree_place_1 (f.1, (f.2, q)) = some (Lib.compareBytes f.1 q) := fun f => rfl
  have key : slices_BinarySearchFunc_string_tree_place_1 (t, q) = some ((k : Int), if h : k < t.length then t[k].1 == q else false) := by
    unfold slices_BinarySearchFunc_string_tree_place_1
    refine loop_meas (fun s => (s.2 - s.1).toNat) (fun s => ∃ lo hi : Nat, s = ((lo : Int), (hi : Int)) ∧ lo ≤ k ∧ k ≤ hi ∧ hi ≤ t.length) _ (fun again s hI ha => ?_) ⟨0, t.length, rfl, by omega, hkl, by omega⟩ (by unfold fuel; simp; omega)
    obtain ⟨lo, hi, rfl, hlo, hhi, hhl⟩ := hI
    dsimp only
    by_cases hlt : lo < hi
    · have e1 : ((lo : Int) + (hi : Int)) = ((lo + hi : Nat) : Int) := by omega
      rw [if_pos (by simp; omega), e1, half_ok (by omega)]
      have hm : (lo + hi) / 2 < t.length := by omega
      rw [wrapI (by omega) (by omega), ixL_nat hm, h1, Option.bind_some, cmp_lt]
      by_cases hc : Op.bytesLess t[(lo + hi) / 2].1 q = true
      · rw [if_pos hc]
        have := (hless _ hm).1 hc
        rw [wrap_succ (by omega)]
        exact ha _ ⟨(lo + hi) / 2 + 1, hi, rfl, by omega, hhi, hhl⟩ (by dsimp only; omega)
      · rw [if_neg hc]
        have : ¬ (lo + hi) / 2 < k := fun h => hc ((hless _ hm).2 h)
        exact ha _ ⟨lo, (lo + hi) / 2, rfl, hlo, by omega, by omega⟩ (by dsimp only; omega)
    · have : lo = k := by omega
      subst this
      rw [if_neg (by simp; omega)]
      by_cases h : lo < t.length
      · rw [if_pos (by simp; omega), ixL_nat h, h1, Option.bind_some, cmp_eq, dif_pos h]
      · rw [if_neg (by simp; omega), dif_neg h]
  unfold tree_place
  show (slices_BinarySearchFunc_string_tree_place_1 (t, q)).bind _ = _
  rw [key]
  rfl
/-- What a tree has at a path. -/
def getT (t : List Fi) (q : List UInt8) : Option (List UInt8) := (t.find? fun f => decide (f.1 = q)).map (·.2)
theorem getT_iff {t : List Fi} (ht : AscF t) {q d : List UInt8} : getT t q = some d ↔ (q, d) ∈ t := by
  unfold getT
  constructor
  · intro h
    obtain ⟨f, hf, rfl⟩ := Option.map_eq_some_iff.1 h
    have h1 := List.mem_of_find?_eq_some hf
    have h2 := List.find?_some hf
    have h2 : f.1 = q := by simpa using h2
    rw [← h2]; exact h1
  · intro h
    cases hf : t.find? fun f => decide (f.1 = q) with
    | none =>
      have := List.find?_eq_none.1 hf (q, d) h
      simp at this
    | some f =>
      have h1 := List.mem_of_find?_eq_some hf
      have h2 := List.find?_some hf
      have h2 : f.1 = q := by simpa using h2
      have := asc_inj ht h1 h (by exact h2)
      rw [this]; rfl
theorem getT_none {t : List Fi} {q : List UInt8} : getT t q = none ↔ ∀ f ∈ t, f.1 ≠ q := by
  unfold getT
  rw [Option.map_eq_none_iff, List.find?_eq_none]
  simp
theorem treeX_asc {t : List Fi} (h : TreeX t) : AscF t := asc_of _ t h.up
theorem findT_cases {t : List Fi} (hb : ∀ g ∈ t, g.1.length ≤ 1000000) (hR : TreeX t) (q : List UInt8) : (getT t q = none ∧ tree_Find (t, q) = some (-1)) ∨ ∃ k, ∃ hk : k < t.length, t[k].1 = q ∧ getT t q = some t[k].2 ∧ tree_Find (t, q) = some (k : Int) := by
  have hl := hR.len
  have ha := treeX_asc hR
  obtain ⟨k, hkl, hless, hp⟩ := place_ok ha (by omega) q
  have hn : (∀ f ∈ t, f.1 ≠ q) ∨ ∃ h : k < t.length, t[k].1 = q := by
    by_cases h : ∃ h : k < t.length, t[k].1 = q
    · exact .inr h
    · refine .inl fun f hf hq => h ?_
      obtain ⟨i, hi, rfl⟩ := List.getElem_of_mem hf
      have h1 : ¬ i < k := fun hik => by
        have := (hless i hi).2 hik
        rw [hq, less_irrefl] at this
        cases this
      have h2 : ¬ k < i := fun hki => by
        have h3 : Les t[k].1 t[i].1 := List.pairwise_iff_getElem.1 ha k i (by omega) hi hki
        rw [hq] at h3
        have := (hless k (by omega)).1 h3
        omega
      have : i = k := by omega
      subst this
      exact ⟨hi, hq⟩
  rcases hn with hn | ⟨hk, hq⟩
  · refine .inl ⟨getT_none.2 hn, ?_⟩
    unfold tree_Find
    dsimp only
    rw [hp, Option.bind_some]
    rw [if_neg]
    by_cases h : k < t.length
    · rw [dif_pos h]
      have := hn _ (List.getElem_mem h)
      simpa using this
    · rw [dif_neg h]; simp
  · refine .inr ⟨k, hk, hq, (getT_iff ha).2 (by rw [← hq]; exact List.getElem_mem hk), ?_⟩
    unfold tree_Find
    dsimp only
    rw [hp, Option.bind_some, if_pos (by rw [dif_pos hk, hq]; simp), treeX_back hb hR, Option.bind_some, if_pos rfl]
end Go.Proofs.W.Q10
namespace Go.Proofs.W.Q10
open Go Go.Proofs.V Go.Proofs.W.Q9
set_option linter.unusedVariables false
set_option linter.unusedSimpArgs false
theorem all_loopK {α : Type} {l : List α} {p : α → Bool} {step : (Int → Option Bool) → Int → Option Bool} (K : Option Bool) (hl : l.length < 1000000000) (hlast : ∀ again, step again (l.length : Int) = K) (hstep : ∀ i, (hi : i < l.length) → ∀ again, step again (i : Int) = if p l[i] = true then again ((i + 1 : Nat) : Int) else some false) : fixS step fuel 0 = if l.all p = true then K else some false := by
  refine loop_run l.length (fun i s => s = (i : Int) ∧ (l.take i).all p = true) _ (by omega) (fun again s hI => ?_) (fun i hi again s hI ha => ?_) ⟨rfl, rfl⟩
  · obtain ⟨rfl, h⟩ := hI
    rw [List.take_length] at h
    rw [hlast, if_pos h]
  · obtain ⟨rfl, h⟩ := hI
    rw [hstep i hi]
    cases hp : p l[i] with
    | true => 
      rw [if_pos rfl]
      exact ha _ ⟨rfl, by rw [all_take hi, h, hp]; rfl⟩
    | false =>
      rw [if_neg (by simp), if_neg]
      rw [List.all_eq_true]
      intro hall
      rw [hall _ (List.getElem_mem hi)] at hp
      cases hp
theorem less_append : ∀ (q : List UInt8) (c : UInt8) (r : List UInt8), Op.bytesLess q (q ++ c :: r) = true
  | [], c, r => rfl
  | x :: q, c, r => by
    rw [List.cons_append]
    unfold Op.bytesLess
    rw [less_append q c r]
    simp
theorem under_less {p q : List UInt8} (h : underB p q = true) : Op.bytesLess q p = true := by
  unfold underB at h
  cases hu : path_Under (p, q) with
  | none => rw [hu] at h; cases h
  | some r =>
    rw [hu] at h
    have h : r = true := h
    subst h
    unfold path_Under at hu
    dsimp only at hu
    obtain ⟨r1, _, hu⟩ := bind_true hu
    split at hu
    case isFalse => cases hu
    obtain ⟨r2, _, hu⟩ := bind_true hu
    split at hu
    case isFalse => cases hu
    split at hu
    case isFalse => cases hu
    split at hu
    case isFalse => cases hu
    obtain ⟨r3, hu, h3⟩ := bind_true hu
    cases h3
    unfold strings_HasPrefix stringslite_HasPrefix at hu
    dsimp only at hu
    obtain ⟨r4, hu, h4⟩ := bind_true hu
    cases h4
    split at hu
    case isFalse => cases hu
    unfold cutL at hu
    split at hu
    case isFalse => cases hu
    rename_i hle
    simp only [Int.toNat_natCast, Option.some.injEq, beq_iff_eq] at hu
    have e : p = (q ++ [47]) ++ p.drop (q ++ [47]).length := by
      have h1 := List.take_append_drop (q ++ [47]).length p
      have hu2 : p.take (q ++ [47]).length = q ++ [47] := by simpa using hu
      rw [hu2] at h1
      exact h1.symm
    rw [e, List.append_assoc]
    exact less_append q 47 _
noncomputable def okAt (t : List Fi) (i : Nat) : Bool :=
  if h : i < t.length then pathB t[i].1 && (decide (t[i].2.length ≤ 600) && ((decide (i = 0) || !(Op.bytesLess t[i].1 (t[i-1]'(by omega)).1 || t[i].1 == (t[i-1]'(by omega)).1)) && (t.take i).all fun g => !underB t[i].1 g.1)) else true
theorem treeX_iff {t : List Fi} (hb : ∀ g ∈ t, g.1.length ≤ 1000000) : (decide (t.length ≤ 16) && (List.range t.length).all (okAt t)) = true ↔ TreeX t := by
  have hat : ∀ i, (h : i < t.length) → okAt t i = (pathB t[i].1 && (decide (t[i].2.length ≤ 600) && ((decide (i = 0) || !(Op.bytesLess t[i].1 (t[i-1]'(by omega)).1 || t[i].1 == (t[i-1]'(by omega)).1)) && (t.take i).all fun g => !underB t[i].1 g.1))) := fun i h => by unfold okAt; rw [dif_pos h]
  rw [Bool.and_eq_true, decide_eq_true_eq, List.all_eq_true]
  constructor
  · rintro ⟨hl, hall⟩
    have key : ∀ i, (h : i < t.length) → pathB t[i].1 = true ∧ t[i].2.length ≤ 600 ∧ (i = 0 ∨ (Op.bytesLess t[i].1 (t[i-1]'(by omega)).1 || t[i].1 == (t[i-1]'(by omega)).1) = false) ∧ ∀ g ∈ t.take i, underB t[i].1 g.1 = false := by
      intro i h
      have h1 := hall i (List.mem_range.2 h)
      rw [hat i h] at h1
      simp only [Bool.and_eq_true, decide_eq_true_eq, Bool.or_eq_true, List.all_eq_true, Bool.not_eq_true'] at h1
      exact ⟨h1.1, h1.2.1, h1.2.2.1, h1.2.2.2⟩
    have hup : ∀ i, (h : i + 1 < t.length) → rgt t[i+1].1 t[i].1 := fun i h => by
      have h1 := (key (i + 1) h).2.2.1
      rcases h1 with h1 | h1
      · omega
      · exact h1
    have hasc : AscF t := asc_of _ t hup
    refine ⟨hl, fun f hf => ?_, fun f hf => ?_, hup, fun f hf g hg => ?_⟩
    · obtain ⟨i, hi, rfl⟩ := List.getElem_of_mem hf
      rw [right_ok (hb _ hf), (key i hi).1]
    · obtain ⟨i, hi, rfl⟩ := List.getElem_of_mem hf
      exact (key i hi).2.1
    · obtain ⟨i, hi, rfl⟩ := List.getElem_of_mem hf
      obtain ⟨j, hj, rfl⟩ := List.getElem_of_mem hg
      by_cases h : j < i
      · exact (key i hi).2.2.2 _ (by rw [List.mem_take_iff_getElem]; exact ⟨j, by omega, rfl⟩)
      · cases hu : underB t[i].1 t[j].1 with
        | false => rfl
        | true =>
          have h1 := under_less hu
          rcases Nat.lt_or_ge i j with h2 | h2
          · have h3 : Les t[i].1 t[j].1 := List.pairwise_iff_getElem.1 hasc i j hi hj h2
            have := Q9.less_trans h1 h3
            rw [less_irrefl] at this
            cases this
          · have : i = j := by omega
            subst this
            rw [less_irrefl] at h1
            cases h1
  · intro h
    refine ⟨h.len, fun i hi => ?_⟩
    have hi := List.mem_range.1 hi
    have hp := h.path _ (List.getElem_mem hi)
    rw [right_ok (hb _ (List.getElem_mem hi))] at hp
    rw [hat i hi]
    simp only [Bool.and_eq_true, decide_eq_true_eq, Bool.or_eq_true, List.all_eq_true, Bool.not_eq_true']
    refine ⟨Option.some.inj hp, h.data _ (List.getElem_mem hi), ?_, fun g hg => h.no _ (List.getElem_mem hi) g (List.mem_of_mem_take hg)⟩
    by_cases h0 : i = 0
    · exact .inl h0
    · right
      have h1 := h.up (i - 1) (by omega)
      have e : i - 1 + 1 = i := by omega
      simp only [e] at h1
      exact h1
theorem tree_dec {t : List Fi} (hb : ∀ g ∈ t, g.1.length ≤ 1000000) : tree_Right t = some (decide (t.length ≤ 16) && (List.range t.length).all (okAt t)) := by
  obtain ⟨r, hr⟩ := treeRight_ends t hb
  rw [hr]
  congr 1
  cases r with
  | true => exact ((treeX_iff hb).2 (treeX_fwd hb hr)).symm
  | false =>
    cases h : (decide (t.length ≤ 16) && (List.range t.length).all (okAt t)) with
    | false => rfl
    | true =>
      rw [treeX_back hb ((treeX_iff hb).1 h)] at hr
      cases hr
theorem reftree_ok {t : List Fi} (hb : ∀ g ∈ t, g.1.length ≤ 1000000) : ref04_Right t = tree_Right t := by
  rw [tree_dec hb]
  unfold ref04_Right
  by_cases hl : t.length ≤ 16
  · rw [if_neg (by simp; omega), decide_eq_true hl, Bool.true_and]
    refine (all_loop (l := List.range t.length) (p := okAt t) true (by simp; omega) (fun again => by rw [if_neg (by simp)]) (fun i hi again => ?_)).trans (by rw [Bool.and_true])
    have hi' : i < t.length := by simpa using hi
    rw [List.getElem_range]
    have hbi := hb _ (List.getElem_mem hi')
    have inner : fixS (S := Int) (R := Bool) (fun again8 s9 => if decide (s9 < (i : Int)) = true then ixL t (i : Int) fun x10 => ixL t s9 fun x11 => (ref03_Under (x10.1, x11.1)).bind fun r12 => if r12 = true then some false else again8 (IntKind.wrap .i64 (s9 + 1)) else again (IntKind.wrap .i64 ((i : Int) + 1))) fuel 0 = if (t.take i).all (fun g => !underB t[i].1 g.1) = true then again ((i + 1 : Nat) : Int) else some false := by
      refine all_loopK (l := t.take i) (p := fun g => !underB t[i].1 g.1) _ (by simp; omega) (fun again' => ?_) (fun j hj again' => ?_)
      · have e : ((t.take i).length : Int) = (i : Int) := by rw [List.length_take]; omega
        rw [e, if_neg (by simp), wrap_succ (by omega)]
      · rw [List.length_take] at hj
        rw [if_pos (by simp; omega), ixL_nat hi', ixL_nat (by omega), wrap_succ (by omega)]
        have hbj := hb _ (List.getElem_mem (show j < t.length by omega))
        rw [refunder_ok hbi hbj, under_ok hbi hbj, Option.bind_some, List.getElem_take]
        cases underB t[i].1 t[j].1 <;> rfl
    have hat : okAt t i = (pathB t[i].1 && (decide (t[i].2.length ≤ 600) && ((decide (i = 0) || !(Op.bytesLess t[i].1 (t[i-1]'(by omega)).1 || t[i].1 == (t[i-1]'(by omega)).1)) && (t.take i).all fun g => !underB t[i].1 g.1))) := by unfold okAt; rw [dif_pos hi']
    rw [if_pos (by simp; omega), ixL_nat hi', refright_ok hbi, Option.bind_some, hat]
    cases h1 : pathB t[i].1 with
    | false => rfl
    | true =>
      rw [if_neg (by simp), ixL_nat hi', Bool.true_and]
      by_cases h2 : t[i].2.length ≤ 600
      · rw [if_neg (by simp; omega), decide_eq_true h2, Bool.true_and]
        by_cases h0 : 0 < i
        · rw [if_pos (by simp; omega), ixL_nat hi', pred64 h0 (by omega), ixL_nat (by omega), decide_eq_false (by omega : ¬ i = 0), Bool.false_or]
          by_cases h3 : (Op.bytesLess t[i].1 t[i-1].1 || t[i].1 == t[i-1].1) = true
          · rw [if_pos h3, h3]; rfl
          · rw [if_neg h3, inner]
            have h3 : (Op.bytesLess t[i].1 t[i-1].1 || t[i].1 == t[i-1].1) = false := by simpa using h3
            rw [h3]; rfl
        · rw [if_neg (by simp; omega), inner, decide_eq_true (by omega : i = 0)]
          rfl
      · rw [if_pos (by simp; omega), decide_eq_false h2]
        rfl
  · rw [if_pos (by simp; omega), decide_eq_false hl]
    rfl
end Go.Proofs.W.Q10
namespace Go.Proofs.W.Q10
open Go Go.Proofs.V Go.Proofs.W.Q9
set_option linter.unusedVariables false
set_option linter.unusedSimpArgs false
theorem ref02right_ok (c : Int × Int) : ref02_Right (c.1, c.2) = clock_Right (c.1, c.2) := by
  obtain ⟨r, hr⟩ := clockRight_ends (c.1, c.2)
  have hi := clockRight_iff (c.1, c.2)
  rw [hr] at hi ⊢
  have e : ref02_Right (c.1, c.2) = some true ↔ ClOk (c.1, c.2) := by
    unfold ref02_Right
    dsimp only
    constructor
    · intro h
      split at h
      case isFalse => cases h
      split at h
      case isFalse => cases h
      split at h
      case isFalse => cases h
      simp only [decide_eq_true_eq, Option.some.injEq, ge_iff_le] at *
      constructor <;> assumption
    · rintro ⟨h1, h2, h3, h4⟩
      dsimp only at h1 h2 h3 h4
      rw [if_pos (by simpa using h1), if_pos (by simpa using h2), if_pos (by simpa using h3), decide_eq_true h4]
  have t : ∃ b, ref02_Right (c.1, c.2) = some b := by
    unfold ref02_Right
    repeat' split
    all_goals exact ⟨_, rfl⟩
  obtain ⟨b, hb⟩ := t
  rw [hb] at e ⊢
  cases b with
  | true =>
    have := hi.2 (e.1 rfl)
    rw [this]
  | false =>
    cases r with
    | false => rfl
    | true => have := e.2 (hi.1 rfl); cases this
theorem fit_ok {a b : Int} (h : ClOk (a, b)) : ref02_Fit (a, b) = some (a, b) := by
  obtain ⟨h1, h2, h3, h4⟩ := h
  dsimp only at h1 h2 h3 h4
  unfold ref02_Fit ref02_clamp
  simp only [Option.bind_some]
  congr 1
  refine Prod.ext ?_ ?_ <;> dsimp only
  · rw [if_neg (by omega : ¬ 1073741824 < a)]
    split <;> omega
  · rw [if_neg (by omega : ¬ 1073741824 < b)]
    split <;> omega
theorem reffiles_ok (a : List En) (hl : a.length < 300000000000) : ref09_files a = some (filesP a) := by
  unfold ref09_files
  refine loop_run a.length (fun i s => s = (filesP (a.take i), (i : Int))) _ (by omega) (fun again s hI => ?_) (fun i hi again s hI ha => ?_) rfl
  · subst hI
    dsimp only
    rw [if_neg (by simp), List.take_length]
  · subst hI
    dsimp only
    have ht : a.take (i + 1) = a.take i ++ [a[i]] := (List.take_append_getElem hi).symm
    rw [if_pos (by simp; omega), ixL_nat hi, wrap_succ (by omega)]
    have hlen : (filesP (a.take i)).length ≤ i := by
      have := filesP_len (a.take i)
      rw [List.length_take] at this
      omega
    split
    · rename_i hf
      rw [ixL_nat hi, ixL_nat hi, if_pos (fits32 (by simp; omega))]
      refine ha _ ?_
      rw [ht, filesP_snoc, if_pos hf]
    · rename_i hf
      refine ha _ ?_
      rw [ht, filesP_snoc, if_neg hf, List.append_nil]
noncomputable def okEAt (a : List En) (i : Nat) : Bool :=
  if h : i < a.length then pathB a[i].1 && (((clock_Right (a[i].2.2.2.1, a[i].2.2.2.2)).getD false) && (!((a[i].2.2.2.1 == 0) && (a[i].2.2.2.2 == 0)) && ((a[i].2.1 || (a[i].2.2.1 == [])) && (decide (i = 0) || !(Op.bytesLess a[i].1 (a[i-1]'(by omega)).1 || a[i].1 == (a[i-1]'(by omega)).1))))) else true
theorem refarch_ok {a : List En} (hb : ∀ e ∈ a, e.1.length ≤ 1000000) (hl : a.length < 1000000000) : ref09_Right a = scan_Right a := by
  have hfb := files_paths hb
  -- the program's, as a boolean
  have hS : scan_Right a = some ((List.range a.length).all (okEAt a) && (decide (a.length ≤ 32) && (tree_Right (filesP a)).getD false)) := by
    rw [right_step]
    refine all_loop (l := List.range a.length) (p := okEAt a) _ (by simp; omega) (fun again => ?_) (fun i hi again => ?_)
    · unfold rstep
      rw [if_neg (by simp)]
      by_cases h32 : a.length ≤ 32
      · rw [if_pos (by simp; omega), files_ok a (by omega), Option.bind_some, decide_eq_true h32]
        obtain ⟨r, hr⟩ := treeRight_ends _ hfb
        rw [hr]; rfl
      · rw [if_neg (by simp; omega), decide_eq_false h32]
        rfl
    · have hi' : i < a.length := by simpa using hi
      rw [List.getElem_range]
      have hat : okEAt a i = (pathB a[i].1 && (((clock_Right (a[i].2.2.2.1, a[i].2.2.2.2)).getD false) && (!((a[i].2.2.2.1 == 0) && (a[i].2.2.2.2 == 0)) && ((a[i].2.1 || (a[i].2.2.1 == [])) && (decide (i = 0) || !(Op.bytesLess a[i].1 (a[i-1]'(by omega)).1 || a[i].1 == (a[i-1]'(by omega)).1)))))) := by unfold okEAt; rw [dif_pos hi']
      obtain ⟨rc, hrc⟩ := clockRight_ends (a[i].2.2.2.1, a[i].2.2.2.2)
      rw [hrc] at hat
      unfold rstep
      rw [if_pos (by simp; omega), ixL_nat hi', right_ok (hb _ (List.getElem_mem hi')), Option.bind_some, wrap_succ (by omega), hat]
      cases pathB a[i].1 with
      | false => rfl
      | true =>
        rw [if_neg (by simp)]
        have tail : ((clock_Right (a[i].2.2.2.1, a[i].2.2.2.2)).bind fun r6 => if (!r6) = true then some false else if ((a[i].2.2.2.1 == 0) && (a[i].2.2.2.2 == 0)) = true then some false else if (!a[i].2.1) = true then (if (!(a[i].2.2.1 == [])) = true then some false else again ((i + 1 : Nat) : Int)) else again ((i + 1 : Nat) : Int)) = if (rc && (!((a[i].2.2.2.1 == 0) && (a[i].2.2.2.2 == 0)) && (a[i].2.1 || (a[i].2.2.1 == [])))) = true then again ((i + 1 : Nat) : Int) else some false := by
          rw [hrc, Option.bind_some]
          cases rc with
          | false => rfl
          | true =>
            rw [if_neg (by simp)]
            cases ((a[i].2.2.2.1 == 0) && (a[i].2.2.2.2 == 0)) with
            | true => rfl
            | false =>
              rw [if_neg (by simp)]
              cases a[i].2.1 with
              | true => rfl
              | false =>
                rw [if_pos (by rfl)]
                cases (a[i].2.2.1 == []) <;> rfl
        by_cases h0 : 0 < i
        · rw [if_pos (by simp; omega), pred64 h0 (by omega), ixL_nat (by omega)]
          by_cases h3 : (Op.bytesLess a[i].1 a[i-1].1 || a[i].1 == a[i-1].1) = true
          · rw [if_pos h3, h3]
            rw [decide_eq_false (by omega : ¬ i = 0)]
            simp
          · rw [if_neg h3]
            have h3 : (Op.bytesLess a[i].1 a[i-1].1 || a[i].1 == a[i-1].1) = false := by simpa using h3
            refine tail.trans ?_
            rw [h3]
            simp
        · rw [if_neg (by simp; omega)]
          refine tail.trans ?_
          rw [decide_eq_true (by omega : i = 0)]
          simp
  rw [hS]
  unfold ref09_Right
  by_cases h32 : a.length ≤ 32
  · rw [if_neg (by simp; omega), decide_eq_true h32, Bool.true_and]
    refine all_loop (l := List.range a.length) (p := okEAt a) _ (by simp; omega) (fun again => ?_) (fun i hi again => ?_)
    · rw [if_neg (by simp), reffiles_ok a (by omega), Option.bind_some, reftree_ok hfb]
      obtain ⟨r, hr⟩ := treeRight_ends _ hfb
      rw [hr]; rfl
    · have hi' : i < a.length := by simpa using hi
      rw [List.getElem_range]
      have hat : okEAt a i = (pathB a[i].1 && (((clock_Right (a[i].2.2.2.1, a[i].2.2.2.2)).getD false) && (!((a[i].2.2.2.1 == 0) && (a[i].2.2.2.2 == 0)) && ((a[i].2.1 || (a[i].2.2.1 == [])) && (decide (i = 0) || !(Op.bytesLess a[i].1 (a[i-1]'(by omega)).1 || a[i].1 == (a[i-1]'(by omega)).1)))))) := by unfold okEAt; rw [dif_pos hi']
      obtain ⟨rc, hrc⟩ := clockRight_ends (a[i].2.2.2.1, a[i].2.2.2.2)
      rw [hrc] at hat
      rw [if_pos (by simp; omega), ixL_nat hi', refright_ok (hb _ (List.getElem_mem hi')), Option.bind_some, ref02right_ok (a[i].2.2.2), hrc, Option.bind_some, wrap_succ (by omega), hat]
      have last : (if decide ((i : Int) > 0) = true then ixL a (IntKind.wrap .i64 ((i : Int) - 1)) fun x6 => if (Op.bytesLess a[i].1 x6.1 || a[i].1 == x6.1) = true then some false else again ((i + 1 : Nat) : Int) else again ((i + 1 : Nat) : Int)) = if (decide (i = 0) || !(Op.bytesLess a[i].1 (a[i-1]'(by omega)).1 || a[i].1 == (a[i-1]'(by omega)).1)) = true then again ((i + 1 : Nat) : Int) else some false := by
        by_cases h0 : 0 < i
        · rw [if_pos (by simp; omega), pred64 h0 (by omega), ixL_nat (by omega), decide_eq_false (by omega : ¬ i = 0), Bool.false_or]
          cases (Op.bytesLess a[i].1 a[i-1].1 || a[i].1 == a[i-1].1) <;> rfl
        · rw [if_neg (by simp; omega), decide_eq_true (by omega : i = 0)]
          rfl
      have mid : (if (!a[i].2.1) = true then (if (!(a[i].2.2.1 == [])) = true then some false else (if decide ((i : Int) > 0) = true then ixL a (IntKind.wrap .i64 ((i : Int) - 1)) fun x6 => if (Op.bytesLess a[i].1 x6.1 || a[i].1 == x6.1) = true then some false else again ((i + 1 : Nat) : Int) else again ((i + 1 : Nat) : Int))) else (if decide ((i : Int) > 0) = true then ixL a (IntKind.wrap .i64 ((i : Int) - 1)) fun x6 => if (Op.bytesLess a[i].1 x6.1 || a[i].1 == x6.1) = true then some false else again ((i + 1 : Nat) : Int) else again ((i + 1 : Nat) : Int))) =
          if ((a[i].2.1 || (a[i].2.2.1 == [])) && (decide (i = 0) || !(Op.bytesLess a[i].1 (a[i-1]'(by omega)).1 || a[i].1 == (a[i-1]'(by omega)).1))) = true then again ((i + 1 : Nat) : Int) else some false := by
        rw [last]
        cases a[i].2.1 with
        | true => rfl
        | false =>
          rw [if_pos (by rfl)]
          cases (a[i].2.2.1 == []) <;> rfl
      cases pathB a[i].1 with
      | false => rfl
      | true =>
        rw [if_neg (by simp)]
        cases rc with
        | false => rfl
        | true =>
          rw [if_neg (by simp)]
          cases h1 : (a[i].2.2.2.1 == 0) with
          | true =>
            rw [if_pos rfl]
            cases h2 : (a[i].2.2.2.2 == 0) with
            | true => rfl
            | false =>
              rw [if_neg (by simp)]
              exact mid
          | false =>
            rw [if_neg (by simp)]
            exact mid
  · rw [if_pos (by simp; omega), decide_eq_false h32]
    simp
end Go.Proofs.W.Q10
namespace Go.Proofs.W.Q10
open Go Go.Proofs.V Go.Proofs.W.Q9
set_option linter.unusedVariables false
set_option linter.unusedSimpArgs false
theorem fits56 {n : Nat} (h : n ≤ 600000000) : fitsB 56 (n : Int) = true := by
  unfold fitsB
  simp only [Int.toNat_natCast, Bool.and_eq_true, decide_eq_true_eq]
  omega
theorem find_idx {l : List En} (hR : scan_Right l = some true) (hl : l.length < 1000000000) (q : List UInt8) : scan_Find (l, q) = some (idxP (fun e : En => e.1 == q) l 0) := by
  unfold scan_Find
  dsimp only
  rw [hR, Option.bind_some, if_neg (by simp)]
  have : scan_find (l, q) = some (idxP (fun e : En => e.1 == q) l 0) := by
    unfold scan_find
    have : slices_IndexFunc_Entry_scan_find_1 (l, q) = some (idxP (fun e : En => e.1 == q) l 0) := by
      unfold slices_IndexFunc_Entry_scan_find_1
      exact index_loop l (fun x3 : En => scan_find_1 (x3.1, (x3.2.1, (x3.2.2.1, (x3.2.2.2.1, (x3.2.2.2.2, q)))))) (fun e => e.1 == q) hl fun x hx => rfl
    show (slices_IndexFunc_Entry_scan_find_1 (l, q)).bind _ = _
    rw [this]; rfl
  rw [this]; rfl
end Go.Proofs.W.Q10
namespace Go.Proofs.W.Q10
open Go Go.Proofs.V Go.Proofs.W.Q9
set_option linter.unusedVariables false
set_option linter.unusedSimpArgs false
theorem few_treeB {t : List Fi} (h : (decide (t.length ≤ 40) && t.all okFi) = true) : ∀ g ∈ t, g.1.length ≤ 1000000 := by
  intro g hg
  simp only [Bool.and_eq_true, decide_eq_true_eq] at h
  have := List.all_eq_true.1 h.2 g hg
  simp only [okFi, Bool.and_eq_true, decide_eq_true_eq] at this
  omega
theorem tree_of {b : List En} (rb : RightS b) : scan_Tree b = some (filesP b) := by
  unfold scan_Tree
  rw [right_back rb, Option.bind_some, if_neg (by simp), files_ok b (by have := rb.len; omega)]
  rfl
end Go.Proofs.W.Q10
namespace Go.Proofs.W.Q10
open Go Go.Proofs.V Go.Proofs.W.Q9
set_option linter.unusedVariables false
set_option linter.unusedSimpArgs false
theorem idxP_at {α : Type} (b : α → Bool) : ∀ (l : List α) (i k : Nat), (hk : k < l.length) → b l[k] = true → (∀ j, (hj : j < l.length) → j < k → b l[j] = false) → idxP b l i = ((i + k : Nat) : Int)
  | [], i, k, hk, _, _ => by simp at hk
  | x :: l, i, 0, hk, h, _ => by
    have h : b x = true := h
    unfold idxP
    rw [if_pos h]; rfl
  | x :: l, i, k + 1, hk, h, hn => by
    have h0 : b x = false := hn 0 (by simp) (by omega)
    unfold idxP
    rw [if_neg (by rw [h0]; simp), idxP_at b l (i + 1) k (by simpa using hk) (by simpa using h) (fun j hj hjk => by have h1 := hn (j + 1) (by simp; omega) (by omega); exact h1)]
    congr 1
    omega
theorem idxP_none {α : Type} (b : α → Bool) : ∀ (l : List α) (i : Nat), (∀ x ∈ l, b x = false) → idxP b l i = -1
  | [], i, _ => rfl
  | x :: l, i, h => by
    unfold idxP
    rw [if_neg (by rw [h x (by simp)]; simp), idxP_none b l (i + 1) fun y hy => h y (by simp [hy])]
theorem refget_ok {t : List Fi} (hb : ∀ g ∈ t, g.1.length ≤ 1000000) (hR : TreeX t) (q : List UInt8) : ref04_Get (t, q) = some ((getT t q).getD [], (getT t q).isSome) := by
  have hl := hR.len
  have ha := treeX_asc hR
  have hidx : ref04_find (t, q) = some (idxP (fun f : Fi => f.1 == q) t 0) := by
    unfold ref04_find
    exact index_loop t (fun x3 : Fi => some (x3.1 == q)) (fun f => f.1 == q) (by omega) fun x hx => rfl
  unfold ref04_Get ref04_Find
  dsimp only
  rw [reftree_ok hb, treeX_back hb hR, Option.bind_some, if_neg (by simp), hidx]
  rcases findT_cases hb hR q with ⟨g, _⟩ | ⟨k, hk, hq, g, _⟩
  · rw [idxP_none _ t 0 fun x hx => by simpa using getT_none.1 g x hx]
    rw [g]; rfl
  · rw [idxP_at (fun f : Fi => f.1 == q) t 0 k hk (by simpa using hq) (fun j hj hjk => by
      have := asc_ne ha hj hk (by omega)
      rw [hq] at this
      simpa using this)]
    simp only [Option.bind_some, Nat.zero_add]
    rw [if_neg (by simp), ixL_nat hk, g]
    rfl
end Go.Proofs.W.Q10
namespace Go.Proofs.W.Q10
open Go Go.Proofs.V Go.Proofs.W.Q9
set_option linter.unusedVariables false
set_option linter.unusedSimpArgs false
theorem merge_cover (l : List En) (t : List Fi) : ∀ e ∈ l, ∃ p ∈ mergeP l t, p.1 = e := by
  induction l, t using mergeP.induct with
  | case1 => intro e he; cases he
  | case2 a l ih =>
    intro e he
    rw [mergeP]
    rcases List.mem_cons.1 he with rfl | he
    · exact ⟨_, List.mem_cons_self, rfl⟩
    · obtain ⟨p, hp, h⟩ := ih e he
      exact ⟨p, by simp [hp], h⟩
  | case3 f t ih => intro e he; cases he
  | case4 a l f t hlt ih =>
    intro e he
    rw [mergeP, if_pos hlt]
    rcases List.mem_cons.1 he with rfl | he
    · exact ⟨_, List.mem_cons_self, rfl⟩
    · obtain ⟨p, hp, h⟩ := ih e he
      exact ⟨p, by simp [hp], h⟩
  | case5 a l f t hlt hgt ih =>
    intro e he
    rw [mergeP, if_neg hlt, if_pos hgt]
    obtain ⟨p, hp, h⟩ := ih e he
    exact ⟨p, by simp [hp], h⟩
  | case6 a l f t hlt hgt ih =>
    intro e he
    rw [mergeP, if_neg hlt, if_neg hgt]
    rcases List.mem_cons.1 he with rfl | he
    · exact ⟨_, List.mem_cons_self, rfl⟩
    · obtain ⟨p, hp, h⟩ := ih e he
      exact ⟨p, by simp [hp], h⟩
theorem getT_files {L : List En} (h : AscE L) (q : List UInt8) : getT (filesP L) q = (getL L q).bind fun e => if e.2.1 = true then some e.2.2.1 else none := by
  have ha := asc_files h
  cases hg : getL L q with
  | none =>
    refine getT_none.2 fun f hf hq => ?_
    obtain ⟨e, he, _, rfl⟩ := mem_files.1 hf
    exact getL_none.1 hg e he hq
  | some e =>
    obtain ⟨he, hq⟩ := getL_some hg
    show _ = if e.2.1 = true then some e.2.2.1 else none
    by_cases hb : e.2.1 = true
    · rw [if_pos hb]
      exact (getT_iff ha).2 (mem_files.2 ⟨e, he, hb, by rw [hq]⟩)
    · rw [if_neg hb]
      refine getT_none.2 fun f hf hfq => ?_
      obtain ⟨e', he', hb', rfl⟩ := mem_files.1 hf
      have : e' = e := asc_inj h he' he (hfq.trans hq.symm)
      rw [this] at hb'
      exact hb hb'
end Go.Proofs.W.Q10
namespace Go.Proofs.W.Q10
open Go Go.Proofs.V Go.Proofs.W.Q9
set_option linter.unusedVariables false
set_option linter.unusedSimpArgs false
/-- A loop that looks for the first. -/
theorem first_loop {α R : Type} (l : List α) (p : α → Bool) {step : (Int → Option R) → Int → Option R} (K : Nat → Option R) (hl : l.length < 1000000000)
    (hlast : ∀ again, step again (l.length : Int) = K l.length)
    (hstep : ∀ i, (hi : i < l.length) → ∀ again, step again (i : Int) = if p l[i] = true then again ((i + 1 : Nat) : Int) else K i) : fixS step fuel 0 = K (l.takeWhile p).length := by
  have := fixS_idx (step := step) l.length (fun i => K (i + ((l.drop i).takeWhile p).length)) (by omega) (fun again => by simp [hlast]) (fun i hi again ha => by
    rw [hstep i hi, List.drop_eq_getElem_cons hi, List.takeWhile_cons]
    cases hp : p l[i] with
    | true =>
      rw [if_pos rfl, if_pos rfl, ha, List.length_cons]
      congr 1
      omega
    | false => rw [if_neg (by simp), if_neg (by simp)]; rfl)
  rw [this]
  simp
theorem takeLen {α : Type} (p : α → Bool) : ∀ l : List α, l.take (l.takeWhile p).length = l.takeWhile p ∧ l.drop (l.takeWhile p).length = l.dropWhile p
  | [] => ⟨rfl, rfl⟩
  | x :: l => by
    rw [List.takeWhile_cons, List.dropWhile_cons]
    cases h : p x with
    | true =>
      rw [if_pos rfl, if_pos rfl]
      obtain ⟨h1, h2⟩ := takeLen p l
      exact ⟨by rw [List.length_cons, List.take_succ_cons, h1], by rw [List.length_cons, List.drop_succ_cons, h2]⟩
    | false => exact ⟨by simp, by simp⟩
theorem insK_at (q : List UInt8) : ∀ out : List (List UInt8), insK q out = match out.dropWhile (fun x => Op.bytesLess x q) with
    | [] => out.takeWhile (fun x => Op.bytesLess x q) ++ [q]
    | x :: r => if x = q then out else out.takeWhile (fun x => Op.bytesLess x q) ++ [q] ++ (x :: r)
  | [] => rfl
  | k :: ks => by
    rw [List.dropWhile_cons, List.takeWhile_cons]
    cases h : Op.bytesLess k q with
    | true =>
      rw [if_pos rfl, if_pos rfl]
      have h1 : ¬ Op.bytesLess q k = true := by rw [less_asymm h]; simp
      have h2 : ¬ q = k := fun e => by rw [e, less_irrefl] at h; cases h
      rw [insK, if_neg h1, if_neg h2, insK_at q ks]
      cases ks.dropWhile (fun x => Op.bytesLess x q) with
      | nil => rfl
      | cons x r =>
        dsimp only
        split <;> rfl
    | false =>
      rw [if_neg (by simp), if_neg (by simp)]
      dsimp only
      rw [insK]
      by_cases h1 : Op.bytesLess q k = true
      · rw [if_pos h1, if_neg (fun e => by rw [e, less_irrefl] at h1; cases h1)]
        rfl
      · rw [if_neg h1]
        by_cases h2 : q = k
        · rw [if_pos h2, if_pos h2.symm]
        · exact absurd (Q9.less_total (by simpa using h1) h2) (by rw [h]; simp)
theorem len_insK (q : List UInt8) : ∀ ks, (insK q ks).length ≤ ks.length + 1
  | [] => by simp [insK]
  | k :: ks => by
    have := len_insK q ks
    unfold insK
    split
    · simp
    · split
      · simp
      · simp; omega
theorem cutG_at {A R : Type} {l : List A} {a b : Nat} (h1 : a ≤ b) (h2 : b ≤ l.length) (f : List A → Option R) : cutL l (a : Int) (b : Int) f = f ((l.take b).drop a) := by
  unfold cutL
  rw [if_pos ⟨by omega, by omega, by omega⟩, Int.toNat_natCast, Int.toNat_natCast]
/-- A path put into its place. -/
theorem ins_loop {R : Type} (out : List (List UInt8)) (q : List UInt8) (hl : out.length ≤ 1000000) (again1 : List (List UInt8) → Option R) :
    fixS (S := Int) (R := R) (fun again4 s5 =>
          if decide (s5 < (out.length : Int)) then
            ixL out s5 fun x6 =>
            if (Op.bytesLess x6 q) then
              again4 (IntKind.wrap .i64 (s5 + 1))
            else
              if (s5 == (out.length : Int)) then
                cutL out 0 s5 fun y7 =>
                if (fitsB 16 (([] ++ y7).length : Int)) then
                  if (fitsB 16 ((([] ++ y7) ++ [q]).length : Int)) then
                    cutL out s5 (out.length : Int) fun y8 =>
                    if (fitsB 16 (((([] ++ y7) ++ [q]) ++ y8).length : Int)) then
                      again1 (((([] ++ y7) ++ [q]) ++ y8))
                    else none
                  else none
                else none
              else
                ixL out s5 fun x9 =>
                if (!(x9 == q)) then
                  cutL out 0 s5 fun y10 =>
                  if (fitsB 16 (([] ++ y10).length : Int)) then
                    if (fitsB 16 ((([] ++ y10) ++ [q]).length : Int)) then
                      cutL out s5 (out.length : Int) fun y11 =>
                      if (fitsB 16 (((([] ++ y10) ++ [q]) ++ y11).length : Int)) then
                        again1 (((([] ++ y10) ++ [q]) ++ y11))
                      else none
                    else none
                  else none
                else
                  again1 out
          else
            if (s5 == (out.length : Int)) then
              cutL out 0 s5 fun y12 =>
              if (fitsB 16 (([] ++ y12).length : Int)) then
                if (fitsB 16 ((([] ++ y12) ++ [q]).length : Int)) then
                  cutL out s5 (out.length : Int) fun y13 =>
                  if (fitsB 16 (((([] ++ y12) ++ [q]) ++ y13).length : Int)) then
                    again1 (((([] ++ y12) ++ [q]) ++ y13))
                  else none
                else none
              else none
            else
              ixL out s5 fun x14 =>
              if (!(x14 == q)) then
                cutL out 0 s5 fun y15 =>
                if (fitsB 16 (([] ++ y15).length : Int)) then
                  if (fitsB 16 ((([] ++ y15) ++ [q]).length : Int)) then
                    cutL out s5 (out.length : Int) fun y16 =>
                    if (fitsB 16 (((([] ++ y15) ++ [q]) ++ y16).length : Int)) then
                      again1 (((([] ++ y15) ++ [q]) ++ y16))
                    else none
                  else none
                else none
              else
                again1 out) fuel 0 = again1 (insK q out) := by
  have key : ∀ i, i ≤ out.length → (cutL out 0 (i : Int) fun y7 =>
                if (fitsB 16 (([] ++ y7).length : Int)) = true then
                  if (fitsB 16 ((([] ++ y7) ++ [q]).length : Int)) = true then
                    cutL out (i : Int) (out.length : Int) fun y8 =>
                    if (fitsB 16 (((([] ++ y7) ++ [q]) ++ y8).length : Int)) = true then
                      again1 (((([] ++ y7) ++ [q]) ++ y8))
                    else none
                  else none
                else none) = again1 (out.take i ++ [q] ++ out.drop i) := fun i hi => by
    have h0 := cutG_at (l := out) (R := R) (a := 0) (b := i) (by omega) hi
    rw [show ((0 : Nat) : Int) = 0 from rfl] at h0
    rw [h0, List.drop_zero, if_pos (Q9.fits16 (by simp; omega)), if_pos (Q9.fits16 (by simp; omega)), cutG_at hi (Nat.le_refl _), if_pos (Q9.fits16 (by simp; omega)), List.take_length]
    rfl
  rw [first_loop out (fun x => Op.bytesLess x q) (K := fun i => match out.drop i with
    | [] => again1 (out.take i ++ [q] ++ [])
    | x :: r => if x = q then again1 out else again1 (out.take i ++ [q] ++ (x :: r))) (by omega)
    (fun again => by
      rw [if_neg (by simp), if_pos (by simp), key _ (Nat.le_refl _), List.drop_length])
    (fun i hi again => by
      rw [if_pos (by simp; omega), ixL_nat hi, wrap_succ (by omega)]
      cases h : Op.bytesLess out[i] q with
      | true => rfl
      | false =>
        have hd : out.drop i = out[i] :: out.drop (i + 1) := List.drop_eq_getElem_cons hi
        by_cases he : out[i] = q
        · rw [if_neg (by simp), if_neg (by simp; omega), ixL_nat hi, if_neg (by simp [he]), if_neg (by simp), hd]
          dsimp only
          rw [if_pos he]
        · rw [if_neg (by simp), if_neg (by simp; omega), ixL_nat hi, if_pos (by simp [he]), key i (by omega), if_neg (by simp), hd]
          dsimp only
          rw [if_neg he])]
  obtain ⟨h1, h2⟩ := takeLen (fun x => Op.bytesLess x q) out
  rw [insK_at]
  rw [h1, h2]
  cases out.dropWhile (fun x => Op.bytesLess x q) with
  | nil => dsimp only; rw [List.append_nil]
  | cons x r =>
    dsimp only
    split <;> rfl
/-- Paths of a row, in order, each once. -/
def sortP (ps : List (List UInt8)) : List (List UInt8) := ps.foldl (fun o q => insK q o) []
theorem sortP_take {ps : List (List UInt8)} {i : Nat} (h : i < ps.length) : sortP (ps.take (i + 1)) = insK ps[i] (sortP (ps.take i)) := by
  unfold sortP
  rw [← List.take_append_getElem h, List.foldl_append]
  rfl
theorem sortP_len (ps : List (List UInt8)) : (sortP ps).length ≤ ps.length := by
  unfold sortP
  have : ∀ (ps : List (List UInt8)) (o : List (List UInt8)), (ps.foldl (fun o q => insK q o) o).length ≤ o.length + ps.length := by
    intro ps
    induction ps with
    | nil => intro o; simp
    | cons q ps ih => intro o; have := ih (insK q o); have := len_insK q o; simp only [List.foldl_cons, List.length_cons]; omega
  have := this ps []
  simpa using this
theorem sortP_up (ps : List (List UInt8)) : Up (sortP ps) := by
  unfold sortP
  have : ∀ (ps : List (List UInt8)) (o : List (List UInt8)), Up o → Up (ps.foldl (fun o q => insK q o) o) := by
    intro ps
    induction ps with
    | nil => intro o h; exact h
    | cons q ps ih => intro o h; exact ih _ (up_insK q h)
  exact this ps [] List.Pairwise.nil
theorem sortP_mem (ps : List (List UInt8)) (q : List UInt8) : q ∈ sortP ps ↔ q ∈ ps := by
  unfold sortP
  have : ∀ (ps : List (List UInt8)) (o : List (List UInt8)), q ∈ (ps.foldl (fun o q => insK q o) o) ↔ q ∈ o ∨ q ∈ ps := by
    intro ps
    induction ps with
    | nil => intro o; simp
    | cons p ps ih =>
      intro o
      rw [List.foldl_cons, ih, mem_insK, List.mem_cons]
      constructor
      · rintro ((h | h) | h)
        · exact .inr (.inl h)
        · exact .inl h
        · exact .inr (.inr h)
      · rintro (h | h | h)
        · exact .inl (.inr h)
        · exact .inl (.inl h)
        · exact .inr h
  simpa using this ps []
theorem paths_ok (l : List En) (t : List Fi) (hl : l.length ≤ 1000) (ht : t.length ≤ 1000) : ref09_paths (l, t) = some (sortP (l.map (·.1) ++ t.map (·.1))) := by
  unfold ref09_paths
  have hw : IntKind.wrap .i64 ((l.length : Int) + (t.length : Int)) = ((l.length + t.length : Nat) : Int) := Q9.wrap_len (by omega)
  refine loop_run (l.length + t.length) (fun i s => s = (sortP ((l.map (·.1) ++ t.map (·.1)).take i), (i : Int))) _ (by omega) (fun again s hI => ?_) (fun i hi again s hI ha => ?_) rfl
  · subst hI
    dsimp only
    rw [hw, if_neg (by simp), List.take_of_length_le (by simp)]
  · subst hI
    dsimp only
    have hps : i < (l.map (·.1) ++ t.map (·.1)).length := by simpa using hi
    have hln := sortP_len ((l.map (·.1) ++ t.map (·.1)).take i)
    have hln2 : ((l.map (·.1) ++ t.map (·.1)).take i).length ≤ i := by rw [List.length_take]; omega
    have hst := sortP_take hps
    rw [hw, if_pos (by simp; omega)]
    by_cases hil : i < l.length
    · rw [if_pos (by simp; omega), ixL_nat hil]
      have he : (l.map (·.1) ++ t.map (·.1))[i] = l[i].1 := by rw [List.getElem_append_left (by simpa using hil)]; simp
      rw [he] at hst
      exact (ins_loop (sortP ((l.map (·.1) ++ t.map (·.1)).take i)) l[i].1 (by omega) (fun o => again (o, IntKind.wrap .i64 ((i : Int) + 1)))).trans (ha _ (by rw [hst, wrap_succ (by omega)]))
    · have hit : i - l.length < t.length := by omega
      have hw2 : IntKind.wrap .i64 ((i : Int) - (l.length : Int)) = ((i - l.length : Nat) : Int) := by rw [wrapI (by omega) (by omega)]; omega
      rw [if_neg (by simp; omega), hw2, ixL_nat hit]
      have he : (l.map (·.1) ++ t.map (·.1))[i] = t[i - l.length].1 := by rw [List.getElem_append_right (by simp; omega)]; simp
      rw [he] at hst
      exact (ins_loop (sortP ((l.map (·.1) ++ t.map (·.1)).take i)) t[i - l.length].1 (by omega) (fun o => again (o, IntKind.wrap .i64 ((i : Int) + 1)))).trans (ha _ (by rw [hst, wrap_succ (by omega)]))
end Go.Proofs.W.Q10
namespace Go.Proofs.W.Q10
open Go Go.Proofs.V Go.Proofs.W.Q9
set_option linter.unusedVariables false
set_option linter.unusedSimpArgs false
theorem tickR_ok {c : Int × Int} (h : Q9.ClOk c) (n : Int) : ref02_Tick (c.1, (c.2, n)) = some (Q9.tickZ c n) := by
  have hf := fit_ok h
  obtain ⟨a, b, rfl, ha, hb⟩ := h.nat
  unfold ref02_Tick
  dsimp only at hf ⊢
  rw [hf, Option.bind_some]
  have hc : ∀ k : Nat, k ≤ 1073741824 → ref02_clamp (IntKind.wrap .i64 ((k : Int) + 1)) = some ((min (k + 1) 1073741824 : Nat) : Int) := fun k hk => by
    rw [wrap_succ (by omega)]
    unfold ref02_clamp
    congr 1
    by_cases h1 : 1073741824 < ((k + 1 : Nat) : Int)
    · rw [if_pos h1, if_pos (by decide)]; omega
    · rw [if_neg h1, if_pos (by omega)]; omega
  show (if (bitsI .and .i64 n 1 == 1) = true then _ else _) = _
  rw [show (bitsI .and .i64 n 1 == 1) = Q9.oddB n from rfl]
  cases hn : Q9.oddB n with
  | true =>
    rw [if_pos rfl, hc b hb, Option.bind_some]
    simp [Q9.tickZ, Q9.tickN, hn]
  | false =>
    rw [if_neg (by simp), hc a ha, Option.bind_some]
    simp [Q9.tickZ, Q9.tickN, hn]
structure PairF (l : List En) (t : List Fi) (p : En × En) : Prop where
  t : getT t p.1.1 = if p.2.2.1 = true then some p.2.2.2.1 else none
  e : p.2.2.1 = false → p.2.2.2.1 = []
  l : getL l p.1.1 = some p.1 ∨ (getL l p.1.1 = none ∧ p.1 = gone p.1.1 ∧ p.2.2.1 = true)
  c : ClOk p.1.2.2.2
  p : p.2.1 = p.1.1
theorem pair_facts {l : List En} {t : List Fi} (rl : RightS l) (ht : tree_Right t = some true) {p : En × En} (hp : p ∈ mergeP l t) : PairF l t p := by
  obtain ⟨k1, k2⟩ := mergeR rl ht
  have hpk := k1 p hp
  have aN : AscE ((mergeP l t).map (·.2)) := by
    unfold AscE Asc
    rw [List.pairwise_map]
    refine List.Pairwise.imp_of_mem ?_ k2
    intro x y hx hy h
    show Les x.2.1 y.2.1
    rw [(k1 x hx).path, (k1 y hy).path]
    exact h
  have hT := getT_files aN p.1.1
  rw [merge_files] at hT
  have gN : getL ((mergeP l t).map (·.2)) p.1.1 = some p.2 := (getL_iff aN).2 ⟨List.mem_map.2 ⟨p, hp, rfl⟩, hpk.path⟩
  rw [gN] at hT
  refine ⟨hT, fun hb => ?_, ?_, pair_cl rl.ok hpk, hpk.path⟩
  · rcases hpk with ⟨_, h⟩ | ⟨f, _, _, h, _⟩ | ⟨_, f, _, h, _⟩
    · rw [h]; rfl
    · rw [h] at hb; cases hb
    · rw [h] at hb; cases hb
  · rcases hpk with ⟨hm, _⟩ | ⟨f, _, h1, h2, h3⟩ | ⟨hm, _⟩
    · exact .inl (getL_mem (RightS.asc rl) hm)
    · refine .inr ⟨getL_none.2 fun e he => by rw [h1]; exact h3 e he, by rw [h1]; rfl, by rw [h2]; rfl⟩
    · exact .inl (getL_mem (RightS.asc rl) hm)
theorem all_ok {l : List En} {t : List Fi} (rl : RightS l) (ht : tree_Right t = some true) : sortP (l.map (·.1) ++ t.map (·.1)) = (mergeP l t).map (·.1.1) := by
  obtain ⟨k1, k2⟩ := mergeR rl ht
  refine up_eq (sortP_up _) ?_ fun q => ?_
  · unfold Up
    rw [List.pairwise_map]
    exact k2
  · rw [sortP_mem, List.mem_append]
    constructor
    · rintro (h | h)
      · obtain ⟨e, he, rfl⟩ := List.mem_map.1 h
        obtain ⟨p, hp, h⟩ := merge_cover l t e he
        exact List.mem_map.2 ⟨p, hp, by rw [h]⟩
      · obtain ⟨f, hf, rfl⟩ := List.mem_map.1 h
        have hm := merge_files l t
        rw [← hm] at hf
        obtain ⟨e, he, _, rfl⟩ := mem_files.1 hf
        obtain ⟨p, hp, rfl⟩ := List.mem_map.1 he
        exact List.mem_map.2 ⟨p, hp, (k1 p hp).path.symm⟩
    · intro h
      obtain ⟨p, hp, rfl⟩ := List.mem_map.1 h
      rcases (k1 p hp).mem with ⟨e, he, h⟩ | ⟨f, hf, h⟩
      · exact .inl (List.mem_map.2 ⟨e, he, h⟩)
      · exact .inr (List.mem_map.2 ⟨f, hf, h⟩)
theorem reffind_ok {l : List En} (hl : l.length < 1000000000) (q : List UInt8) : ref09_find (l, q) = some (idxP (fun e : En => e.1 == q) l 0) := by
  unfold ref09_find
  exact index_loop l (fun x3 : En => some (x3.1 == q)) (fun e => e.1 == q) hl fun x hx => rfl
theorem reffind_cases {l : List En} (hR : RightS l) (q : List UInt8) : (getL l q = none ∧ ref09_find (l, q) = some (-1)) ∨ ∃ k, ∃ hk : k < l.length, l[k].1 = q ∧ getL l q = some l[k] ∧ ref09_find (l, q) = some (k : Int) := by
  have hl := hR.len
  rw [reffind_ok (by omega)]
  rcases find_cases hR q with ⟨h1, h2⟩ | ⟨k, hk, h1, h2, h3⟩
  · rw [find_idx (right_back hR) (by omega)] at h2
    exact .inl ⟨h1, h2⟩
  · rw [find_idx (right_back hR) (by omega)] at h3
    exact .inr ⟨k, hk, h1, h2, h3⟩
/-- What a changed path comes to. -/
noncomputable def tickK (n : Int) (q : List UInt8) (c : Int × Int) (has : Bool) (data : List UInt8) (o : List En) (cs : List (List UInt8)) (i : Int) (again : List En × (List (List UInt8) × Int) → Option (List En × (List (List UInt8) × Int))) : Option (List En × (List (List UInt8) × Int)) :=
  (ref02_Tick (c.1, (c.2, n))).bind fun r =>
    if ((r.1 == c.1) && (r.2 == c.2)) = true then some ([], ([], 2))
    else if fitsB 16 ((cs ++ [q]).length : Int) = true then
      if fitsB 56 ((o ++ [(q, (has, (data, (r.1, r.2))))]).length : Int) = true then again (o ++ [(q, (has, (data, (r.1, r.2))))], (cs ++ [q], IntKind.wrap .i64 (i + 1))) else none
    else none
theorem tickK_ok (n : Int) (q : List UInt8) {c : Int × Int} (hc : ClOk c) (has : Bool) (data : List UInt8) (o : List En) (cs : List (List UInt8)) (i : Nat) (again : List En × (List (List UInt8) × Int) → Option (List En × (List (List UInt8) × Int))) (ho : o.length ≤ 1000) (hs : cs.length ≤ 1000) (hi : i ≤ 1000) :
    tickK n q c has data o cs (i : Int) again = if ((tickZ c n).1 == c.1 && (tickZ c n).2 == c.2) = true then some ([], ([], 2)) else again (o ++ [(q, (has, (data, tickZ c n)))], (cs ++ [q], ((i + 1 : Nat) : Int))) := by
  unfold tickK
  rw [tickR_ok hc, Option.bind_some, if_pos (Q9.fits16 (by simp; omega)), if_pos (fits56 (by simp; omega)), wrap_succ (by omega)]
theorem refscan_good {l : List En} {t : List Fi} (hb : ∀ g ∈ t, g.1.length ≤ 1000000) (hp : ∀ e ∈ l, e.1.length ≤ 1000000) (rl : RightS l) (ht : tree_Right t = some true) (n : Int) : ref09_Scan (l, (t, n)) = scan_Scan (l, (t, n)) := by
  have hl := rl.len
  have hX := treeX_fwd hb ht
  have htl := hX.len
  obtain ⟨m0, m1, m2⟩ := merge_len l t
  obtain ⟨ms, hms⟩ : ∃ ms, ms = mergeP l t := ⟨_, rfl⟩
  have hall := all_ok rl ht
  have hF : ∀ p ∈ ms, PairF l t p := fun p hp => pair_facts rl ht (by rw [← hms]; exact hp)
  unfold ref09_Scan
  dsimp only
  rw [reftree_ok hb, ht, Option.bind_some, if_neg (by simp), refarch_ok hp (by omega), right_back rl, Option.bind_some, if_neg (by simp), paths_ok l t (by omega) (by omega), Option.bind_some, hall]
  rw [← hms] at m0 m1 m2 ⊢
  by_cases h32 : 32 < ms.length
  · rw [if_pos (by simp; omega), scan_full rl ht n (.inr (by rw [← hms]; exact h32))]
  rw [if_neg (by simp; omega)]
  have hgoal : scan_Scan (l, (t, n)) = if ms.any (fullP n) = true then some ([], ([], 2)) else some (ms.map (outP n), ((ms.filter ch).map (·.2.1), 0)) := by
    cases hf : ms.any (fullP n) with
    | true => rw [if_pos rfl, scan_full rl ht n (.inl (by rw [← hms]; exact hf))]
    | false => rw [if_neg (by simp), scan_good rl ht n (by rw [← hms]; exact hf) (by rw [← hms]; omega), hms]
  rw [hgoal]
  have hlen : (ms.map (·.1.1)).length = ms.length := by simp
  rw [hlen]
  refine loop_run ms.length (fun i s => s = ((ms.take i).map (outP n), (((ms.take i).filter ch).map (·.2.1), (i : Int))) ∧ (ms.take i).any (fullP n) = false) _ (by omega) (fun again s hI => ?_) (fun i hi again s hI ha => ?_) ⟨rfl, rfl⟩
  · obtain ⟨rfl, h⟩ := hI
    rw [List.take_length] at h
    dsimp only
    rw [if_neg (by simp), List.take_length, h, if_neg (by simp)]
  · obtain ⟨rfl, h⟩ := hI
    dsimp only
    obtain ⟨p, hpe⟩ : ∃ p, p = ms[i] := ⟨_, rfl⟩
    have hpm : p ∈ ms := by rw [hpe]; exact List.getElem_mem hi
    have P := hF p hpm
    have htk : ms.take (i + 1) = ms.take i ++ [p] := by rw [hpe]; exact (List.take_append_getElem hi).symm
    have hix : (ms.map (·.1.1))[i]'(by simpa using hi) = p.1.1 := by rw [List.getElem_map, hpe]
    have ol : ((ms.take i).map (outP n)).length ≤ 1000 := by simp; omega
    have cl : (((ms.take i).filter ch).map (·.2.1)).length ≤ 1000 := by
      rw [List.length_map]
      have := List.length_filter_le ch (ms.take i)
      rw [List.length_take] at this
      omega
    rw [if_pos (by simp; omega), ixL_nat (l := ms.map (·.1.1)) (by simpa using hi), hix, refget_ok hb hX, Option.bind_some]
    have hg1 : (getT t p.1.1).isSome = p.2.2.1 := by
      rw [P.t]; cases p.2.2.1 <;> rfl
    have hg2 : (getT t p.1.1).getD [] = p.2.2.2.1 := by
      rw [P.t]
      cases hb2 : p.2.2.1 with
      | true => rfl
      | false => rw [P.e hb2]; rfl
    rw [hg1, hg2]
    have htickK : ∀ (again : List En × (List (List UInt8) × Int) → Option (List En × (List (List UInt8) × Int))) r, (fullP n p = true → some ([], ([], 2)) = r) → (fullP n p = false → again ((ms.take i).map (outP n) ++ [(p.1.1, (p.2.2.1, (p.2.2.2.1, tickZ p.1.2.2.2 n)))], (((ms.take i).filter ch).map (·.2.1) ++ [p.1.1], ((i + 1 : Nat) : Int))) = r) → ch p = true →
        tickK n p.1.1 p.1.2.2.2 p.2.2.1 p.2.2.2.1 ((ms.take i).map (outP n)) (((ms.take i).filter ch).map (·.2.1)) (i : Int) again = r := by
      intro again r h1 h2 hc
      rw [tickK_ok n p.1.1 P.c _ _ _ _ i again ol cl (by omega)]
      have hful : fullP n p = ((tickZ p.1.2.2.2 n).1 == p.1.2.2.2.1 && (tickZ p.1.2.2.2 n).2 == p.1.2.2.2.2) := by unfold fullP; rw [hc, Bool.true_and]
      rw [← hful]
      cases hx : fullP n p with
      | true => rw [if_pos rfl]; exact h1 hx
      | false => rw [if_neg (by simp)]; exact h2 hx
    have hfull : fullP n p = true → (some ([], ([], (2 : Int))) : Option (List En × (List (List UInt8) × Int))) = if ms.any (fullP n) = true then some ([], ([], 2)) else some (ms.map (outP n), ((ms.filter ch).map (·.2.1), 0)) := fun hx => by
      rw [if_pos (List.any_eq_true.2 ⟨p, hpm, hx⟩)]
    have hnext : ch p = true → fullP n p = false → again ((ms.take i).map (outP n) ++ [(p.1.1, (p.2.2.1, (p.2.2.2.1, tickZ p.1.2.2.2 n)))], (((ms.take i).filter ch).map (·.2.1) ++ [p.1.1], ((i + 1 : Nat) : Int))) = if ms.any (fullP n) = true then some ([], ([], 2)) else some (ms.map (outP n), ((ms.filter ch).map (·.2.1), 0)) := fun hc hx => by
      refine ha _ ⟨?_, ?_⟩
      · rw [htk, List.map_append, List.filter_append, List.map_append, List.filter_cons_of_pos hc]
        have ho : outP n p = (p.1.1, (p.2.2.1, (p.2.2.2.1, tickZ p.1.2.2.2 n))) := by unfold outP; rw [if_pos hc, P.p]
        simp only [List.map_cons, List.map_nil, List.filter_nil, ho, P.p]
      · rw [htk, List.any_append, h]
        simp [hx]
    have hpair : ch p = !((p.2.2.1 == p.1.2.1) && (p.2.2.2.1 == p.1.2.2.1)) := by
      unfold ch
      rw [P.p]
      simp
    rcases P.l with hg | ⟨hg, hgo, hhas⟩
    · rcases reffind_cases rl p.1.1 with ⟨h1, h2⟩ | ⟨k, hk, hkq, h1, h2⟩
      · rw [hg] at h1; cases h1
      · have hke : l[k] = p.1 := by rw [hg] at h1; exact (Option.some.inj h1).symm
        rw [h2, Option.bind_some, if_pos (by simp), ixL_nat hk, hke, if_neg (by simp)]
        by_cases hh : p.1.2.1 = p.2.2.1
        · rw [if_neg (by simp [hh])]
          by_cases hd : p.1.2.2.1 = p.2.2.2.1
          · have hc : ch p = false := by rw [hpair]; simp [hh, hd]
            rw [if_neg (by simp [hd]), if_pos (fits56 (by simp; omega)), wrap_succ (by omega)]
            have hx : fullP n p = false := by unfold fullP; rw [hc]; rfl
            refine ha _ ⟨?_, ?_⟩
            · rw [htk, List.map_append, List.filter_append, List.map_append, List.filter_cons_of_neg (by rw [hc]; simp)]
              have ho : outP n p = p.1 := by unfold outP; rw [if_neg (by rw [hc]; simp)]
              simp [ho]
            · rw [htk, List.any_append, h]
              simp [hx]
          · have hc : ch p = true := by rw [hpair]; simp; exact .inr fun h => hd h.symm
            rw [if_pos (by simp [hd])]
            exact htickK again _ hfull (hnext hc) hc
        · have hc : ch p = true := by rw [hpair]; simp; exact .inl fun h => hh h.symm
          rw [if_pos (by simp [hh])]
          exact htickK again _ hfull (hnext hc) hc
    · rcases reffind_cases rl p.1.1 with ⟨h1, h2⟩ | ⟨k, hk, hkq, h1, h2⟩
      · rw [h2, Option.bind_some, if_neg (by decide), if_pos (by decide)]
        have hc : ch p = true := by rw [hpair, hgo, hhas]; rfl
        have hz : p.1.2.2.2 = (0, 0) := by rw [hgo]; rfl
        have := htickK again _ hfull (hnext hc) hc
        rw [hz] at this
        exact this
      · rw [hg] at h1; cases h1
theorem refscan_ok {l : List En} {t : List Fi} (hb : ∀ g ∈ t, g.1.length ≤ 1000000) (ml : Mid l) (n : Int) : ref09_Scan (l, (t, n)) = scan_Scan (l, (t, n)) := by
  have hnl := ml.n
  obtain ⟨r1, h1⟩ := treeRight_ends t hb
  obtain ⟨r2, h2⟩ := ml.ends
  by_cases h : r1 = true ∧ r2 = true
  · obtain ⟨rfl, rfl⟩ := h
    exact refscan_good hb ml.p (ml.right h2) h1 n
  · rw [scan_err n h2 h1 (fun ⟨a, b⟩ => h ⟨b, a⟩)]
    unfold ref09_Scan
    dsimp only
    rw [reftree_ok hb, h1, Option.bind_some]
    cases r1 with
    | false => rfl
    | true =>
      rw [if_neg (by simp), refarch_ok ml.p (by omega), h2, Option.bind_some]
      cases r2 with
      | false => rfl
      | true => exact absurd ⟨rfl, rfl⟩ h
end Go.Proofs.W.Q10
