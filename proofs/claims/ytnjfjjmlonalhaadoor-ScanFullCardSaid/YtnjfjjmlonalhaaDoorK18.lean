/- Loops over an index, as plain recursion. -/
import Derived.Test.YtnjfjjmlonalhaaDoorK13
import Derived.Test.YtnjfjjmlonalhaaDoorK15
import Derived.KernelRfl
namespace Go.Proofs.W
open Go Go.Proofs.V
set_option linter.unusedVariables false
set_option linter.unusedSimpArgs false

theorem fixN_idx {R : Type} (step : (Int → Option R) → Int → Option R) (n : Nat) (P : Nat → Option R) (hlast : ∀ again, step again (n : Int) = P n) (hstep : ∀ i, i < n → ∀ again, again ((i + 1 : Nat) : Int) = P (i + 1) → step again (i : Int) = P i) :
    ∀ (k i m : Nat), i + k = n → k < m → fixN step m (i : Int) = P i
  | 0, i, m, hi, hm => by
    obtain ⟨m, rfl⟩ : ∃ m', m = m' + 1 := ⟨m - 1, by omega⟩
    have : i = n := by omega
    subst this
    rw [fixN]; exact hlast _
  | k + 1, i, m, hi, hm => by
    obtain ⟨m, rfl⟩ : ∃ m', m = m' + 1 := ⟨m - 1, by omega⟩
    rw [fixN]
    exact hstep i (by omega) _ (fixN_idx step n P hlast hstep k (i + 1) m (by omega) (by omega))
/-- A loop over an index. -/
theorem fixS_idx {R : Type} {step : (Int → Option R) → Int → Option R} (n : Nat) (P : Nat → Option R) (hn : n < 1180591620717411303424) (hlast : ∀ again, step again (n : Int) = P n) (hstep : ∀ i, i < n → ∀ again, again ((i + 1 : Nat) : Int) = P (i + 1) → step again (i : Int) = P i) : fixS step fuel 0 = P 0 := by
  rw [fixS_eq]
  exact fixN_idx step n P hlast hstep n 0 fuel (by omega) hn
/-- The same with a state beside the index. -/
theorem fixN_idxS {A R : Type} (step : (A × Int → Option R) → A × Int → Option R) (n : Nat) (P : Nat → A → Option R) (hlast : ∀ again a, step again (a, (n : Int)) = P n a) (hstep : ∀ i a, i < n → ∀ again, (∀ a, again (a, ((i + 1 : Nat) : Int)) = P (i + 1) a) → step again (a, (i : Int)) = P i a) :
    ∀ (k i m : Nat) (a : A), i + k = n → k < m → fixN step m (a, (i : Int)) = P i a
  | 0, i, m, a, hi, hm => by
    obtain ⟨m, rfl⟩ : ∃ m', m = m' + 1 := ⟨m - 1, by omega⟩
    have : i = n := by omega
    subst this
    rw [fixN]; exact hlast _ _
  | k + 1, i, m, a, hi, hm => by
    obtain ⟨m, rfl⟩ : ∃ m', m = m' + 1 := ⟨m - 1, by omega⟩
    rw [fixN]
    exact hstep i a (by omega) _ fun a => fixN_idxS step n P hlast hstep k (i + 1) m a (by omega) (by omega)
theorem fixS_idxS {A R : Type} {step : (A × Int → Option R) → A × Int → Option R} (n : Nat) (P : Nat → A → Option R) (hn : n < 1180591620717411303424) (hlast : ∀ again a, step again (a, (n : Int)) = P n a) (hstep : ∀ i a, i < n → ∀ again, (∀ a, again (a, ((i + 1 : Nat) : Int)) = P (i + 1) a) → step again (a, (i : Int)) = P i a) (a : A) : fixS step fuel (a, 0) = P 0 a := by
  rw [fixS_eq]
  exact fixN_idxS step n P hlast hstep n 0 fuel a (by omega) hn
theorem ixL_nat {α R : Type} {l : List α} {i : Nat} (h : i < l.length) (f : α → Option R) : ixL l (i : Int) f = f l[i] := by
  unfold ixL
  simp [h]
theorem wrap_succ {i : Nat} (h : i < 4000000000000000000) : IntKind.wrap .i64 ((i : Int) + 1) = ((i + 1 : Nat) : Int) := succ64 (by omega)
end Go.Proofs.W
namespace Go.Proofs.W.Q9
open Go Go.Proofs.V
set_option linter.unusedVariables false
set_option linter.unusedSimpArgs false
set_option maxRecDepth 100000
set_option maxHeartbeats 4000000
theorem small_ok : law09_small () = some true := by
  simp only [stringslite_IndexByte, strings_IndexByte, path_Name, path_Names, path_Right, clock_Right, scan_files, stringslite_HasPrefix, strings_HasPrefix, path_Under, tree_Right_1, slices_IndexFunc_File_tree_Right_1, slices_ContainsFunc_File_tree_Right_1, tree_Right, scan_Right, clock_clamp, clock_Of, clock_count, clock_Pair, clock_whole, clock_Tick, scan_step, scan_post, scan_early, scan_Scan, slices_Equal_Entry, scan_Same, scan_find_1, slices_IndexFunc_Entry_scan_find_1, scan_find, scan_Find, scan_Tree, scan_Copy, law09_small, law09_Few, law04_Few, clock_Mine, ref01_Rows, slices_Equal_File, tree_Same, path_Sorted, clock_Join, clock_Order, fixS_eq]
  kernel_rfl
end Go.Proofs.W.Q9
namespace Go.Proofs.W.Q9
open Go Go.Proofs.V
set_option linter.unusedVariables false
set_option linter.unusedSimpArgs false
abbrev En := List UInt8 × (Bool × (List UInt8 × (Int × Int)))
abbrev Fi := List UInt8 × List UInt8
def okEn (e : En) : Bool := decide (e.1.length ≤ 100) && decide (e.2.2.1.length ≤ 1000)
def okFi (e : Fi) : Bool := decide (e.1.length ≤ 100) && decide (e.2.length ≤ 1000)
theorem few9_ok (a : List En) : law09_Few a = some (decide (a.length ≤ 60) && a.all okEn) := by
  unfold law09_Few
  by_cases hl : a.length ≤ 60
  · rw [if_neg (by simp; omega)]
    rw [fixS_idx a.length (fun i => some ((a.drop i).all okEn)) (by omega)]
    · simp [hl]
    · intro again
      rw [if_neg (by simp)]
      simp
    · intro i hi again ha
      rw [if_pos (by simp; omega), ixL_nat hi, ixL_nat hi, wrap_succ (by omega), ha]
      rw [List.drop_eq_getElem_cons hi, List.all_cons]
      by_cases h1 : a[i].1.length ≤ 100
      · rw [if_neg (by simp; omega)]
        by_cases h2 : a[i].2.2.1.length ≤ 1000
        · rw [if_neg (by simp; omega)]
          simp [okEn, h1, h2]
        · rw [if_pos (by simp; omega)]
          simp [okEn, h2]
      · rw [if_pos (by simp; omega)]
        simp [okEn, h1]
  · rw [if_pos (by simp; omega)]
    simp [hl]
theorem few4_ok (a : List Fi) : law04_Few a = some (decide (a.length ≤ 40) && a.all okFi) := by
  unfold law04_Few
  by_cases hl : a.length ≤ 40
  · rw [if_neg (by simp; omega)]
    rw [fixS_idx a.length (fun i => some ((a.drop i).all okFi)) (by omega)]
    · simp [hl]
    · intro again
      rw [if_neg (by simp)]
      simp
    · intro i hi again ha
      rw [if_pos (by simp; omega), ixL_nat hi, ixL_nat hi, wrap_succ (by omega), ha]
      rw [List.drop_eq_getElem_cons hi, List.all_cons]
      by_cases h1 : a[i].1.length ≤ 100
      · rw [if_neg (by simp; omega)]
        by_cases h2 : a[i].2.length ≤ 1000
        · rw [if_neg (by simp; omega)]
          simp [okFi, h1, h2]
        · rw [if_pos (by simp; omega)]
          simp [okFi, h2]
      · rw [if_pos (by simp; omega)]
        simp [okFi, h1]
  · rw [if_pos (by simp; omega)]
    simp [hl]
end Go.Proofs.W.Q9
namespace Go.Proofs.W.Q9
open Go Go.Proofs.V
set_option linter.unusedVariables false
set_option linter.unusedSimpArgs false
def gone (p : List UInt8) : En := (p, (false, ([], (0, 0))))
def has (f : Fi) : En := (f.1, (true, (f.2, (0, 0))))
theorem ixL_cons {α R : Type} (a : α) (l : List α) (f : α → Option R) : ixL (a :: l) 0 f = f a := by
  have := ixL_nat (l := a :: l) (i := 0) (by simp) f
  simpa using this
theorem cutL_cons {α R : Type} (a : α) (l : List α) (f : List α → Option R) : cutL (a :: l) 1 ((a :: l).length : Int) f = f l := by
  unfold cutL
  rw [if_pos (by simp; omega)]
  simp
theorem wrap_len {a b : Nat} (h : a + b < 4000000000000000000) : IntKind.wrap .i64 ((a : Int) + (b : Int)) = ((a + b : Nat) : Int) := by
  rw [wrapI (by omega) (by omega)]; omega
def bothP : List En → List Fi → Option (ItR tau9)
  | [], [] => some none
  | a :: l, [] => some (some (a, gone a.1, l, []))
  | [], f :: t => some (some (gone f.1, has f, [], t))
  | a :: l, f :: t => if Op.bytesLess a.1 f.1 = true then some (some (a, gone a.1, l, f :: t)) else if (!(Op.bytesLess a.1 f.1 || a.1 == f.1)) = true then some (some (gone f.1, has f, a :: l, t)) else some (some (a, has f, l, t))
theorem both_ok2 (l : List En) (t : List Fi) (h : l.length + t.length < 4000000000000000000) : both_step l t = bothP l t := by
  unfold both_step
  rw [wrap_len h]
  cases l with
  | nil =>
    cases t with
    | nil => simp [bothP]
    | cons f t =>
      rw [if_pos (by simp), if_neg (by simp; omega), if_neg (by simp), if_pos (by simp)]
      simp only [ixL_cons, cutL_cons]
      rfl
  | cons a l =>
    cases t with
    | nil =>
      rw [if_pos (by simp), if_pos (by simp)]
      simp only [ixL_cons, cutL_cons]
      rfl
    | cons f t =>
      have ne : ∀ {α : Type} (x : α) (xs : List α), (((x :: xs).length : Int) == 0) = false := fun x xs => by simp; omega
      rw [if_pos (by simp; omega), ne, if_neg (by simp), if_pos (by simp)]
      simp only [ixL_cons, cutL_cons, ne, Bool.false_eq_true, if_false]
      rfl
end Go.Proofs.W.Q9
namespace Go.Proofs.W.Q9
open Go Go.Proofs.V
set_option linter.unusedVariables false
set_option linter.unusedSimpArgs false
def mergeP : List En → List Fi → List (En × En)
  | [], [] => []
  | a :: l, [] => (a, gone a.1) :: mergeP l []
  | [], f :: t => (gone f.1, has f) :: mergeP [] t
  | a :: l, f :: t => if Op.bytesLess a.1 f.1 = true then (a, gone a.1) :: mergeP l (f :: t) else if (!(Op.bytesLess a.1 f.1 || a.1 == f.1)) = true then (gone f.1, has f) :: mergeP (a :: l) t else (a, has f) :: mergeP l t
termination_by l t => l.length + t.length
theorem itAll_merge : ∀ (n : Nat) (l : List En) (t : List Fi), l.length + t.length < n → l.length + t.length < 4000000000000000000 → itAll (τ := tau9) both_step n l t = some (mergeP l t)
  | 0, l, t, h, _ => by omega
  | n + 1, l, t, h, hb => by
    rw [itAll, both_ok2 l t hb]
    cases l with
    | nil =>
      cases t with
      | nil => simp [bothP, mergeP]
      | cons f t =>
        simp only [List.length_nil, List.length_cons] at h hb
        simp only [bothP, Option.bind_some, itAll_merge n [] t (by simp; omega) (by simp; omega), Option.map_some]
        rw [mergeP]
    | cons a l =>
      cases t with
      | nil =>
        simp only [List.length_nil, List.length_cons] at h hb
        simp only [bothP, Option.bind_some, itAll_merge n l [] (by simp; omega) (by simp; omega), Option.map_some]
        rw [mergeP]
      | cons f t =>
        simp only [List.length_cons] at h hb
        rw [bothP, mergeP]
        split
        · simp only [Option.bind_some, itAll_merge n l (f :: t) (by simp; omega) (by simp; omega), Option.map_some]
        · split
          · simp only [Option.bind_some, itAll_merge n (a :: l) t (by simp; omega) (by simp; omega), Option.map_some]
          · simp only [Option.bind_some, itAll_merge n l t (by omega) (by omega), Option.map_some]
theorem itRun_merge (l : List En) (t : List Fi) (h : l.length + t.length < 4000000000000000000) : itRun (τ := tau9) both_step l t = some (mergeP l t) := itAll_merge _ l t (by omega) h
end Go.Proofs.W.Q9
namespace Go.Proofs.W.Q9
open Go Go.Proofs.V
set_option linter.unusedVariables false
set_option linter.unusedSimpArgs false
def same (p : En × En) : Prop := p.2.1 = p.1.1 ∧ p.2.2.1 = p.1.2.1 ∧ p.2.2.2.1 = p.1.2.2.1
theorem fits56 {n : Nat} (h : n ≤ 600000000000) : fitsB 56 (n : Int) = true := by
  unfold fitsB
  simp only [Int.toNat_natCast, Bool.and_eq_true, decide_eq_true_eq]
  omega
theorem fits16 {n : Nat} (h : n ≤ 600000000000) : fitsB 16 (n : Int) = true := by
  unfold fitsB
  simp only [Int.toNat_natCast, Bool.and_eq_true, decide_eq_true_eq]
  omega
theorem step_same {R : Type} {p : En × En} (hp : same p) {n : Int} {x : List En} {y : List (List UInt8)} {z : Int} {ents : List En} {ps : List (List UInt8)} (hl : ents.length < 600000000000) {k kr : Int × (List En × (List (List UInt8) × (Int × (List En × List (List UInt8))))) → Option R} :
    scan_step p (n, (x, (y, (z, (ents, ps))))) k kr = k (n, (x, (y, (z, (ents ++ [p.1], ps))))) := by
  obtain ⟨⟨a1, a2, a3, a4, a5⟩, ⟨b1, b2, b3, b4, b5⟩⟩ := p
  obtain ⟨h1, h2, h3⟩ := hp
  simp only at h1 h2 h3
  subst h1 h2 h3
  unfold scan_step
  simp only [beq_self_eq_true, Bool.and_self, Bool.not_true, Bool.false_eq_true, if_false]
  rw [if_pos (fits56 (by simp; omega))]
theorem range_same {R : Type} {n : Int} {x : List En} {y : List (List UInt8)} {z : Int} {ps : List (List UInt8)} {k kr : Int × (List En × (List (List UInt8) × (Int × (List En × List (List UInt8))))) → Option R} : ∀ (xs : List (En × En)) (ents : List En), (∀ p ∈ xs, same p) → ents.length + xs.length < 600000000000 → rangeP scan_step xs (n, (x, (y, (z, (ents, ps))))) k kr = k (n, (x, (y, (z, (ents ++ xs.map (·.1), ps)))))
  | [], ents, _, _ => by simp [rangeP]
  | p :: xs, ents, h, hl => by
    simp only [List.length_cons] at hl
    rw [rangeP, step_same (h p (by simp)) (by omega), range_same xs (ents ++ [p.1]) (fun q hq => h q (by simp [hq])) (by simp; omega)]
    simp
end Go.Proofs.W.Q9
namespace Go.Proofs.W.Q9
open Go Go.Proofs.V
set_option linter.unusedVariables false
set_option linter.unusedSimpArgs false
def filesP : List En → List Fi
  | [] => []
  | e :: l => if e.2.1 = true then (e.1, e.2.2.1) :: filesP l else filesP l
theorem filesP_len : ∀ l, (filesP l).length ≤ l.length
  | [] => by simp [filesP]
  | e :: l => by
    have := filesP_len l
    unfold filesP
    split <;> simp <;> omega
theorem fits32 {n : Nat} (h : n ≤ 600000000000) : fitsB 32 (n : Int) = true := by
  unfold fitsB
  simp only [Int.toNat_natCast, Bool.and_eq_true, decide_eq_true_eq]
  omega
theorem files_ok (a : List En) (hl : a.length < 300000000000) : scan_files a = some (filesP a) := by
  unfold scan_files
  have key : ∀ (s : List Fi) (k i m : Nat), i + k = a.length → k < m → s.length ≤ i → fixN (S := (List Fi) × Int) (R := List Fi) (fun again1 s2 =>
    if decide (s2.2 < (a.length : Int)) then
      ixL a s2.2 fun x3 =>
      if x3.2.1 then
        if (fitsB 32 ((s2.1 ++ [(x3.1, x3.2.2.1)]).length : Int)) then
          again1 ((s2.1 ++ [(x3.1, x3.2.2.1)]), (IntKind.wrap .i64 (s2.2 + 1)))
        else none
      else
        again1 (s2.1, (IntKind.wrap .i64 (s2.2 + 1)))
    else
      some s2.1) m (s, (i : Int)) = some (s ++ filesP (a.drop i)) := by
    intro s k
    induction k generalizing s with
    | zero =>
      intro i m hi hm hs
      obtain ⟨m, rfl⟩ : ∃ m', m = m' + 1 := ⟨m - 1, by omega⟩
      have : i = a.length := by omega
      subst this
      rw [fixN]
      simp [filesP]
    | succ k ih =>
      intro i m hi hm hs
      obtain ⟨m, rfl⟩ : ∃ m', m = m' + 1 := ⟨m - 1, by omega⟩
      have hi' : i < a.length := by omega
      rw [fixN]
      simp only
      rw [if_pos (by simp; omega), ixL_nat hi', wrap_succ (by omega), List.drop_eq_getElem_cons hi']
      unfold filesP
      split
      · rename_i hh
        rw [if_pos (fits32 (by simp; omega)), ih _ (i + 1) m (by omega) (by omega) (by simp; omega)]
        simp [hh]
      · rename_i hh
        rw [ih _ (i + 1) m (by omega) (by omega) (by omega)]

  rw [fixS_eq]
  have := key [] a.length 0 fuel (by omega) (by unfold fuel; omega) (by simp)
  simpa using this
theorem same_refl (a : List En) (hl : a.length < 300000000000) : scan_Same (a, a) = some true := by
  unfold scan_Same slices_Equal_Entry
  rw [if_neg (by simp)]
  rw [fixS_idx a.length (fun _ => some true) (by omega)]
  · rfl
  · intro again
    rw [if_neg (by simp)]
  · intro i hi again ha
    rw [if_pos (by simp; omega), ixL_nat hi, ixL_nat hi, wrap_succ (by omega), ha]
    rw [if_neg (by simp)]
end Go.Proofs.W.Q9
namespace Go.Proofs.W.Q9
open Go Go.Proofs.V
set_option linter.unusedVariables false
set_option linter.unusedSimpArgs false
def rgt (x y : List UInt8) : Prop := (Op.bytesLess x y || x == y) = false
structure RightA (a : List En) : Prop where
  len : a.length ≤ 32
  tree : tree_Right (filesP a) = some true
  up : ∀ i, (h : i + 1 < a.length) → rgt a[i+1].1 a[i].1
  empty : ∀ i, (h : i < a.length) → a[i].2.1 = false → a[i].2.2.1 = []
theorem bind_true {α : Type} {o : Option α} {f : α → Option Bool} (h : o.bind f = some true) : ∃ x, o = some x ∧ f x = some true := Option.bind_eq_some_iff.1 h
noncomputable def rstep (x : List En) (again1 : Int → Option Bool) (s2 : Int) : Option Bool :=
    if decide (s2 < (x.length : Int)) then
      ixL x s2 fun x3 =>
      (path_Right x3.1).bind fun r4 =>
      if (!r4) then
        some false
      else
        if decide (s2 > 0) then
          ixL x (IntKind.wrap .i64 (s2 - 1)) fun x5 =>
          if (Op.bytesLess x3.1 x5.1 || x3.1 == x5.1) then
            some false
          else
            (clock_Right (x3.2.2.2.1, x3.2.2.2.2)).bind fun r6 =>
            if (!r6) then
              some false
            else
              if ((x3.2.2.2.1 == 0) && (x3.2.2.2.2 == 0)) then
                some false
              else
                if (!x3.2.1) then
                  if (!(x3.2.2.1 == [])) then
                    some false
                  else
                    again1 (IntKind.wrap .i64 (s2 + 1))
                else
                  again1 (IntKind.wrap .i64 (s2 + 1))
        else
          (clock_Right (x3.2.2.2.1, x3.2.2.2.2)).bind fun r7 =>
          if (!r7) then
            some false
          else
            if ((x3.2.2.2.1 == 0) && (x3.2.2.2.2 == 0)) then
              some false
            else
              if (!x3.2.1) then
                if (!(x3.2.2.1 == [])) then
                  some false
                else
                  again1 (IntKind.wrap .i64 (s2 + 1))
              else
                again1 (IntKind.wrap .i64 (s2 + 1))
    else
      if decide ((x.length : Int) ≤ 32) then
        (scan_files x).bind fun r8 =>
        (tree_Right r8).bind fun r9 =>
        some r9
      else
        some false
theorem right_step (x : List En) : scan_Right x = fixS (rstep x) fuel 0 := rfl
theorem right_inv {a : List En} (hn : a.length < 4000000000000000000) (h : scan_Right a = some true) : RightA a := by
  rw [right_step, fixS_eq] at h
  suffices key : ∀ (k i m : Nat), i + k = a.length → fixN (S := Int) (R := Bool) (rstep a) m (i : Int) = some true → (a.length ≤ 32 ∧ tree_Right (filesP a) = some true) ∧ (∀ j, i ≤ j → (hj : j < a.length) → 0 < j → rgt a[j].1 (a[j-1]'(by omega)).1) ∧ (∀ j, i ≤ j → (hj : j < a.length) → a[j].2.1 = false → a[j].2.2.1 = []) by
    obtain ⟨k1, k2, k3⟩ := key a.length 0 fuel (by omega) h
    exact ⟨k1.1, k1.2, fun i hi => by simpa using k2 (i + 1) (by omega) hi (by omega), fun i hi => k3 i (by omega) hi⟩
  intro k
  induction k with
  | zero =>
    intro i m hi hm
    cases m with
    | zero => cases hm
    | succ m =>
      rw [fixN, rstep] at hm
      have : i = a.length := by omega
      subst this
      rw [if_neg (by simp)] at hm
      split at hm
      · rename_i hl
        have hl' : a.length ≤ 32 := by
          have : (a.length : Int) ≤ 32 := by simpa using hl
          omega
        obtain ⟨fs, hfs, hm2⟩ := bind_true hm
        obtain ⟨r9, hr9, hm3⟩ := bind_true hm2
        rw [files_ok a (by omega)] at hfs
        cases hfs
        cases hm3
        exact ⟨⟨hl', hr9⟩, fun j h1 h2 => by omega, fun j h1 h2 => by omega⟩
      · cases hm
  | succ k ih =>
    intro i m hi hm
    cases m with
    | zero => cases hm
    | succ m =>
      rw [fixN, rstep] at hm
      have hi' : i < a.length := by omega
      rw [if_pos (by simp; omega), ixL_nat hi', wrap_succ (by omega)] at hm
      obtain ⟨r, _, hm⟩ := bind_true hm
      cases r with
      | false => cases hm
      | true =>
      rw [if_neg (by simp)] at hm
      have fin : ∀ (P : Prop), (0 < i → rgt a[i].1 (a[i-1]'(by omega)).1) → (a[i].2.1 = false → a[i].2.2.1 = []) → fixN (S := Int) (R := Bool) (rstep a) m ((i + 1 : Nat) : Int) = some true → (a.length ≤ 32 ∧ tree_Right (filesP a) = some true) ∧ (∀ j, i ≤ j → (hj : j < a.length) → 0 < j → rgt a[j].1 (a[j-1]'(by omega)).1) ∧ (∀ j, i ≤ j → (hj : j < a.length) → a[j].2.1 = false → a[j].2.2.1 = []) := by
        intro _ q1 q2 q3
        obtain ⟨k1, k2, k3⟩ := ih (i + 1) m (by omega) q3
        refine ⟨k1, fun j h1 h2 h3 => ?_, fun j h1 h2 => ?_⟩
        · by_cases e : j = i
          · subst e; exact q1 h3
          · exact k2 j (by omega) h2 h3
        · by_cases e : j = i
          · subst e; exact q2
          · exact k3 j (by omega) h2
      have tail : (if ((a[i].2.2.2.1 == 0) && (a[i].2.2.2.2 == 0)) = true then some false else if (!a[i].2.1) = true then (if (!(a[i].2.2.1 == [])) = true then some false else fixN (S := Int) (R := Bool) (rstep a) m ((i + 1 : Nat) : Int)) else fixN (S := Int) (R := Bool) (rstep a) m ((i + 1 : Nat) : Int)) = some true → (0 < i → rgt a[i].1 (a[i-1]'(by omega)).1) → (a.length ≤ 32 ∧ tree_Right (filesP a) = some true) ∧ (∀ j, i ≤ j → (hj : j < a.length) → 0 < j → rgt a[j].1 (a[j-1]'(by omega)).1) ∧ (∀ j, i ≤ j → (hj : j < a.length) → a[j].2.1 = false → a[j].2.2.1 = []) := by
        intro hm q1
        split at hm
        · cases hm
        split at hm
        · split at hm
          · cases hm
          · rename_i hd
            exact fin True q1 (fun _ => by simpa using hd) hm
        · rename_i hh
          exact fin True q1 (fun e => by rw [e] at hh; simp at hh) hm
      split at hm
      · rename_i hpos
        have hpos : 0 < i := by simpa using hpos
        have e1 : IntKind.wrap .i64 ((i : Int) - 1) = ((i - 1 : Nat) : Int) := by rw [wrapI (by omega) (by omega)]; omega
        rw [e1, ixL_nat (by omega)] at hm
        split at hm
        · cases hm
        rename_i hlt
        obtain ⟨r2, _, hm⟩ := bind_true hm
        split at hm
        · cases hm
        exact tail hm (fun _ => by simpa [rgt] using hlt)
      · rename_i hpos
        obtain ⟨r2, _, hm⟩ := bind_true hm
        split at hm
        · cases hm
        exact tail hm (fun hp => absurd hp (by simpa using hpos))
end Go.Proofs.W.Q9
namespace Go.Proofs.W.Q9
open Go Go.Proofs.V
set_option linter.unusedVariables false
set_option linter.unusedSimpArgs false
/-- Strictly rising, and no data without a file. -/
def okA : List En → Prop
  | [] => True
  | e :: l => (e.2.1 = false → e.2.2.1 = []) ∧ (∀ f ∈ l, Op.bytesLess e.1 f.1 = true) ∧ okA l
theorem files_mem : ∀ {l : List En} {f : Fi}, f ∈ filesP l → ∃ e ∈ l, e.1 = f.1
  | [], f, h => by simp [filesP] at h
  | e :: l, f, h => by
    unfold filesP at h
    split at h
    · rcases List.mem_cons.1 h with rfl | h
      · exact ⟨e, by simp, rfl⟩
      · obtain ⟨x, hx, he⟩ := files_mem h
        exact ⟨x, by simp [hx], he⟩
    · obtain ⟨x, hx, he⟩ := files_mem h
      exact ⟨x, by simp [hx], he⟩
theorem bytesLess_irr : ∀ p : List UInt8, Op.bytesLess p p = false
  | [] => rfl
  | x :: p => by
    have := bytesLess_irr p
    simp [Op.bytesLess, this]
theorem merge_own : ∀ a : List En, okA a → (∀ p ∈ mergeP a (filesP a), same p) ∧ (mergeP a (filesP a)).map (·.1) = a
  | [], _ => by simp [filesP, mergeP]
  | e :: l, ⟨h1, h2, h3⟩ => by
    obtain ⟨i1, i2⟩ := merge_own l h3
    unfold filesP
    split
    · rename_i hh
      rw [mergeP, if_neg (by rw [bytesLess_irr]; simp), if_neg (by simp)]
      refine ⟨fun p hp => ?_, by simp [i2]⟩
      rcases List.mem_cons.1 hp with rfl | hp
      · exact ⟨rfl, hh.symm, rfl⟩
      · exact i1 p hp
    · rename_i hh
      have hf : e.2.1 = false := by simpa using hh
      have hs : same (e, gone e.1) := ⟨rfl, hf.symm, (h1 hf).symm⟩
      have hm : mergeP (e :: l) (filesP l) = (e, gone e.1) :: mergeP l (filesP l) := by
        cases hfl : filesP l with
        | nil => rw [mergeP]
        | cons f t =>
          obtain ⟨x, hx, he⟩ := files_mem (l := l) (f := f) (by rw [hfl]; simp)
          rw [mergeP, if_pos (by rw [← he]; exact h2 x hx)]
      rw [hm]
      refine ⟨fun p hp => ?_, by simp [i2]⟩
      rcases List.mem_cons.1 hp with rfl | hp
      · exact hs
      · exact i1 p hp
end Go.Proofs.W.Q9
namespace Go.Proofs.W.Q9
open Go Go.Proofs.V
set_option linter.unusedVariables false
set_option linter.unusedSimpArgs false
theorem less_trans : ∀ {x y z : List UInt8}, Op.bytesLess x y = true → Op.bytesLess y z = true → Op.bytesLess x z = true
  | [], [], z, h, _ => by simp [Op.bytesLess] at h
  | [], y :: ys, [], _, h => by simp [Op.bytesLess] at h
  | [], y :: ys, z :: zs, _, _ => by simp [Op.bytesLess]
  | x :: xs, [], z, h, _ => by simp [Op.bytesLess] at h
  | x :: xs, y :: ys, [], _, h => by simp [Op.bytesLess] at h
  | x :: xs, y :: ys, z :: zs, h1, h2 => by
    have ih := @less_trans xs ys zs
    simp only [Op.bytesLess, Bool.or_eq_true, Bool.and_eq_true, decide_eq_true_eq, beq_iff_eq] at h1 h2 ⊢
    rcases h1 with h1 | ⟨rfl, h1⟩
    · rcases h2 with h2 | ⟨rfl, h2⟩
      · exact .inl (UInt8.lt_trans h1 h2)
      · exact .inl h1
    · rcases h2 with h2 | ⟨rfl, h2⟩
      · exact .inl h2
      · exact .inr ⟨rfl, ih h1 h2⟩
theorem less_total : ∀ {x y : List UInt8}, Op.bytesLess x y = false → ¬ x = y → Op.bytesLess y x = true
  | [], [], _, h => absurd rfl h
  | [], y :: ys, h, _ => by simp [Op.bytesLess] at h
  | x :: xs, [], _, _ => by simp [Op.bytesLess]
  | x :: xs, y :: ys, h, hne => by
    have ih := @less_total xs ys
    simp only [Op.bytesLess, Bool.or_eq_false_iff, Bool.and_eq_false_imp, decide_eq_false_iff_not, beq_iff_eq] at h
    simp only [Op.bytesLess, Bool.or_eq_true, Bool.and_eq_true, decide_eq_true_eq, beq_iff_eq]
    rcases UInt8.lt_or_eq_of_le (UInt8.not_lt.1 h.1) with h1 | h1
    · exact .inl h1
    · subst h1
      exact .inr ⟨rfl, ih (h.2 rfl) fun e => hne (by rw [e])⟩
end Go.Proofs.W.Q9
namespace Go.Proofs.W.Q9
open Go Go.Proofs.V
set_option linter.unusedVariables false
set_option linter.unusedSimpArgs false
theorem less_of_rgt {x y : List UInt8} (h : rgt x y) : Op.bytesLess y x = true := by
  unfold rgt at h
  simp only [Bool.or_eq_false_iff, beq_eq_false_iff_ne, ne_eq] at h
  exact less_total h.1 h.2
theorem okA_aux : ∀ (a : List En), (∀ i, (h : i + 1 < a.length) → Op.bytesLess a[i].1 a[i+1].1 = true) → (∀ i, (h : i < a.length) → a[i].2.1 = false → a[i].2.2.1 = []) → okA a
  | [], _, _ => trivial
  | e :: l, h1, h2 => by
    have ih := okA_aux l (fun i hi => h1 (i + 1) (by simpa using hi)) (fun i hi => h2 (i + 1) (by simpa using hi))
    refine ⟨h2 0 (by simp), ?_, ih⟩
    cases l with
    | nil => intro f hf; simp at hf
    | cons f l =>
      have h0 : Op.bytesLess e.1 f.1 = true := h1 0 (by simp)
      intro g hg
      rcases List.mem_cons.1 hg with rfl | hg
      · exact h0
      · exact less_trans h0 (ih.2.1 g hg)
theorem RightA.ok {a : List En} (h : RightA a) : okA a := okA_aux a (fun i hi => less_of_rgt (h.up i hi)) h.empty
/-- Nothing changed: a right archive, scanned against its tree. -/
theorem scan_own {a : List En} (n : Int) (hr : scan_Right a = some true) (h : RightA a) : scan_Scan (a, (filesP a, n)) = some (a, ([], 0)) := by
  obtain ⟨m1, m2⟩ := merge_own a h.ok
  have hlen := filesP_len a
  have hl := h.len
  have hml : (mergeP a (filesP a)).length = a.length := by rw [← List.length_map (f := fun p : En × En => p.1), m2]
  unfold scan_Scan
  simp only [hr, h.tree, Option.bind_some, Bool.not_true, Bool.false_eq_true, if_false]
  rw [itRun_merge a (filesP a) (by omega)]
  simp only [Option.bind_some]
  rw [range_same (mergeP a (filesP a)) [] m1 (by simp; omega), m2]
  unfold scan_post
  simp only [List.nil_append]
  rw [if_neg (by simp; omega)]
/-- ScanBack, where it is known that scan.Right comes to an end. -/
theorem back_of {x : List En × Int} (hT : x.1.length ≤ 60 → x.1.all okEn = true → ∃ b, scan_Right x.1 = some b) : law09_ScanBack x = some true := by
  obtain ⟨a, n⟩ := x
  unfold law09_ScanBack
  rw [small_ok, few9_ok]
  simp only [Option.bind_some]
  by_cases hf : (decide (a.length ≤ 60) && a.all okEn) = true
  · have hf' := hf
    simp only [Bool.and_eq_true, decide_eq_true_eq] at hf'
    obtain ⟨b, hb⟩ := hT hf'.1 hf'.2
    have hb : scan_Right a = some b := hb
    simp only [hf, hb, Option.bind_some, Bool.not_true, Bool.false_eq_true, if_false]
    cases b with
    | false => rfl
    | true =>
      have hR := right_inv (by omega) hb
      have ht : scan_Tree a = some (filesP a) := by
        unfold scan_Tree
        rw [hb, files_ok a (by omega)]
        rfl
      rw [ht]
      simp only [Option.bind_some, Bool.not_true, Bool.false_eq_true, if_false, scan_own n hb hR, same_refl a (by omega), if_true]
      rfl
  · simp [hf]
end Go.Proofs.W.Q9
namespace Go.Proofs.W.Q9
open Go Go.Proofs.V
set_option linter.unusedVariables false
set_option linter.unusedSimpArgs false
def Ends {α : Type} (o : Option α) : Prop := ∃ r, o = some r
theorem ends_some {α : Type} (x : α) : Ends (some x) := ⟨x, rfl⟩
theorem ends_bind {α β : Type} {o : Option α} {f : α → Option β} (h : Ends o) (k : ∀ x, o = some x → Ends (f x)) : Ends (o.bind f) := by
  obtain ⟨x, rfl⟩ := h
  exact k x rfl
theorem ends_ite {α : Type} {c : Prop} [Decidable c] {x y : Option α} (hx : c → Ends x) (hy : ¬ c → Ends y) : Ends (if c then x else y) := by
  split
  · exact hx ‹_›
  · exact hy ‹_›
theorem ends_loop {R : Type} {step : (Int → Option R) → Int → Option R} (n : Nat) (hn : n < 1180591620717411303424) (hlast : ∀ again, Ends (step again (n : Int))) (hstep : ∀ i, i < n → ∀ again, Ends (again ((i + 1 : Nat) : Int)) → Ends (step again (i : Int))) : Ends (fixS step fuel 0) := by
  rw [fixS_eq]
  have key : ∀ (k i m : Nat), i + k = n → k < m → Ends (fixN step m (i : Int)) := by
    intro k
    induction k with
    | zero =>
      intro i m hi hm
      obtain ⟨m, rfl⟩ : ∃ m', m = m' + 1 := ⟨m - 1, by omega⟩
      have : i = n := by omega
      subst this
      rw [fixN]; exact hlast _
    | succ k ih =>
      intro i m hi hm
      obtain ⟨m, rfl⟩ : ∃ m', m = m' + 1 := ⟨m - 1, by omega⟩
      rw [fixN]
      exact hstep i (by omega) _ (ih (i + 1) m (by omega) (by omega))
  exact key n 0 fuel (by omega) hn
theorem idx_ends {s : List UInt8} {c : Int} (h0 : 0 ≤ c) (h1 : c < 256) : Ends (strings_IndexByte (s, c)) := by
  unfold strings_IndexByte stringslite_IndexByte bytealg_IndexByteString
  exact ⟨_, by rw [if_pos ⟨h0, h1⟩]; rfl⟩
theorem toBL_len (s : List UInt8) : (toBL s).length = s.length := by simp [toBL]
theorem toBL_get (s : List UInt8) (i : Nat) (h : i < (toBL s).length) : 0 ≤ (toBL s)[i] ∧ (toBL s)[i] < 256 := by
  simp only [toBL, List.getElem_map]
  have := (s[i]'(by simpa [toBL] using h)).toNat_lt
  omega
theorem name_ends (s : List UInt8) (hs : s.length < 4000000000000000000) : Ends (path_Name s) := by
  unfold path_Name
  refine ends_loop (toBL s).length (by rw [toBL_len]; omega) (fun again => ?_) fun i hi again ha => ?_
  · rw [if_neg (by simp)]
    refine ends_ite (fun _ => ends_ite (fun _ => ends_ite (fun _ => ends_some _) fun _ => ends_some _) fun _ => ends_some _) fun _ => ends_some _
  · obtain ⟨b0, b1⟩ := toBL_get s i hi
    have hl := toBL_len s
    rw [if_pos (by simp; omega), ixL_nat hi, wrap_succ (by omega)]
    have ib : Ends ((strings_IndexByte ([46, 45], (toBL s)[i])).bind fun r4 => if decide (r4 < 0) = true then some false else again ((i + 1 : Nat) : Int)) := ends_bind (idx_ends b0 b1) fun r _ => ends_ite (fun _ => ends_some _) fun _ => ha
    refine ends_ite (fun _ => ends_ite (fun _ => ha) fun _ => ends_ite (fun _ => ends_ite (fun _ => ib) fun _ => ha) fun _ => ib) fun _ => ends_ite (fun _ => ends_ite (fun _ => ib) fun _ => ha) fun _ => ib
theorem names_ends (s : List UInt8) (hs : s.length ≤ 1000000) : Ends (path_Names s) := by
  unfold path_Names strings_Split
  simp only [true_and, hs, if_true, Option.bind_some]
  refine ends_ite (fun _ => ends_some _) fun hlen => ?_
  have hl := E.lens_spl s
  have hw : ∀ w ∈ E.spl s, w.length ≤ 1000001 := by
    intro w hw
    have : ∀ (l : List (List UInt8)), w ∈ l → w.length ≤ E.lens l := by
      intro l
      induction l with
      | nil => intro h; simp at h
      | cons x l ih =>
        intro h
        have e : E.lens (x :: l) = x.length + 1 + E.lens l := by simp [E.lens]
        rw [e]
        rcases List.mem_cons.1 h with rfl | h
        · omega
        · have := ih h; omega
    have := this _ hw
    omega
  have hn : (E.spl s).length ≤ 4 := by simp at hlen; omega
  refine ends_loop (E.spl s).length (by omega) (fun again => ?_) fun i hi again ha => ?_
  · rw [if_neg (by simp)]; exact ends_some _
  · rw [if_pos (by simp; omega), ixL_nat hi, wrap_succ (by omega)]
    refine ends_bind (name_ends _ (by have := hw _ (List.getElem_mem hi); omega)) fun r _ => ends_ite (fun _ => ends_some _) fun _ => ha
theorem pathRight_ends (s : List UInt8) (hs : s.length ≤ 1000000) : Ends (path_Right s) := ends_bind (names_ends s hs) fun _ _ => ends_some _
theorem clockRight_ends (x : Int × Int) : Ends (clock_Right x) := ends_ite (fun _ => ends_some _) fun _ => ends_some _
end Go.Proofs.W.Q9
namespace Go.Proofs.W.Q9
open Go Go.Proofs.V
set_option linter.unusedVariables false
set_option linter.unusedSimpArgs false
theorem fits1 {n : Nat} (h : n ≤ 600000000000) : fitsB 1 (n : Int) = true := by
  unfold fitsB
  simp only [Int.toNat_natCast, Bool.and_eq_true, decide_eq_true_eq]
  omega
theorem hasPrefix_ends (x : List UInt8 × List UInt8) : Ends (strings_HasPrefix x) := by
  unfold strings_HasPrefix stringslite_HasPrefix
  refine ends_bind (ends_ite (fun h => ?_) fun _ => ends_some _) fun _ _ => ends_some _
  unfold cutL
  have h' : x.2.length ≤ x.1.length := by simpa using h
  exact ends_ite (fun _ => ends_some _) fun hn => absurd (by constructor <;> (try constructor) <;> simp <;> omega) hn
theorem under_ends (x : List UInt8 × List UInt8) (h1 : x.1.length ≤ 1000000) (h2 : x.2.length ≤ 1000000) : Ends (path_Under x) := by
  unfold path_Under
  refine ends_bind (pathRight_ends _ h1) fun _ _ => ends_ite (fun _ => ends_bind (pathRight_ends _ h2) fun _ _ => ends_ite (fun _ => ?_) fun _ => ends_some _) fun _ => ends_some _
  refine ends_ite (fun _ => ends_ite (fun _ => ends_bind (hasPrefix_ends _) fun _ _ => ends_some _) fun hn => absurd (by decide) hn) fun hn => absurd (fits1 (by omega)) hn
theorem contains_ends (t : List Fi) (f : Fi) (ht : ∀ g ∈ t, g.1.length ≤ 1000000) (hf : f.1.length ≤ 1000000) (hl : t.length < 1000000000) : Ends (slices_ContainsFunc_File_tree_Right_1 (t, (f.1, f.2))) := by
  unfold slices_ContainsFunc_File_tree_Right_1 slices_IndexFunc_File_tree_Right_1
  refine ends_bind (ends_loop t.length (by omega) (fun again => ?_) fun i hi again ha => ?_) fun _ _ => ends_some _
  · rw [if_neg (by simp)]; exact ends_some _
  · rw [if_pos (by simp; omega), ixL_nat hi, wrap_succ (by omega)]
    unfold tree_Right_1
    exact ends_bind (ends_bind (under_ends _ hf (ht _ (List.getElem_mem hi))) fun _ _ => ends_some _) fun _ _ => ends_ite (fun _ => ends_some _) fun _ => ha
theorem treeRight_ends (t : List Fi) (ht : ∀ g ∈ t, g.1.length ≤ 1000000) : Ends (tree_Right t) := by
  unfold tree_Right
  refine ends_ite (fun _ => ends_some _) fun hl => ?_
  have hl : t.length ≤ 16 := by simp at hl; omega
  refine ends_loop t.length (by omega) (fun again => ?_) fun i hi again ha => ?_
  · rw [if_neg (by simp)]; exact ends_some _
  · rw [if_pos (by simp; omega), ixL_nat hi, wrap_succ (by omega)]
    have hc := contains_ends t t[i] ht (ht _ (List.getElem_mem hi)) (by omega)
    refine ends_bind (pathRight_ends _ (ht _ (List.getElem_mem hi))) fun _ _ => ends_ite (fun _ => ends_some _) fun _ => ends_ite (fun _ => ends_some _) fun _ => ends_ite (fun hp => ?_) fun _ => ends_bind hc fun _ _ => ends_ite (fun _ => ends_some _) fun _ => ha
    have hpos : 0 < i := by simpa using hp
    have e1 : IntKind.wrap .i64 ((i : Int) - 1) = ((i - 1 : Nat) : Int) := by rw [wrapI (by omega) (by omega)]; omega
    rw [e1, ixL_nat (by omega)]
    exact ends_ite (fun _ => ends_some _) fun _ => ends_bind hc fun _ _ => ends_ite (fun _ => ends_some _) fun _ => ha
theorem files_paths {a : List En} {n : Nat} (h : ∀ e ∈ a, e.1.length ≤ n) : ∀ g ∈ filesP a, g.1.length ≤ n := by
  intro g hg
  obtain ⟨e, he, e1⟩ := files_mem hg
  rw [← e1]; exact h e he
theorem scanRight_ends (a : List En) (ha : ∀ e ∈ a, e.1.length ≤ 1000000) (hl : a.length < 1000000000) : Ends (scan_Right a) := by
  rw [right_step]
  refine ends_loop a.length (by omega) (fun again => ?_) fun i hi again hg => ?_
  · unfold rstep
    rw [if_neg (by simp)]
    refine ends_ite (fun _ => ?_) fun _ => ends_some _
    exact ends_bind ⟨_, files_ok a (by omega)⟩ fun fs hfs => by
      rw [files_ok a (by omega)] at hfs
      cases hfs
      exact ends_bind (treeRight_ends _ (files_paths ha)) fun _ _ => ends_some _
  · unfold rstep
    rw [if_pos (by simp; omega), ixL_nat hi, wrap_succ (by omega)]
    refine ends_bind (pathRight_ends _ (ha _ (List.getElem_mem hi))) fun _ _ => ends_ite (fun _ => ends_some _) fun _ => ?_
    have tail : Ends ((clock_Right (a[i].2.2.2.1, a[i].2.2.2.2)).bind fun r6 => if (!r6) = true then some false else if ((a[i].2.2.2.1 == 0) && (a[i].2.2.2.2 == 0)) = true then some false else if (!a[i].2.1) = true then (if (!(a[i].2.2.1 == [])) = true then some false else again ((i + 1 : Nat) : Int)) else again ((i + 1 : Nat) : Int)) :=
      ends_bind (clockRight_ends _) fun _ _ => ends_ite (fun _ => ends_some _) fun _ => ends_ite (fun _ => ends_some _) fun _ => ends_ite (fun _ => ends_ite (fun _ => ends_some _) fun _ => hg) fun _ => hg
    refine ends_ite (fun hp => ?_) fun _ => tail
    have hpos : 0 < i := by simpa using hp
    have e1 : IntKind.wrap .i64 ((i : Int) - 1) = ((i - 1 : Nat) : Int) := by rw [wrapI (by omega) (by omega)]; omega
    rw [e1, ixL_nat (by omega)]
    exact ends_ite (fun _ => ends_some _) fun _ => tail
/-- **ScanBack, of its plain program.** -/
theorem back_ok (x : List En × Int) : law09_ScanBack x = some true := back_of fun h1 h2 => scanRight_ends x.1 (fun e he => by
  have := List.all_eq_true.1 h2 e he
  simp only [okEn, Bool.and_eq_true, decide_eq_true_eq] at this
  omega) (by omega)
end Go.Proofs.W.Q9
