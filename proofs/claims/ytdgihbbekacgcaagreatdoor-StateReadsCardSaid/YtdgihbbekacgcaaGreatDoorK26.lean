/- Clocks of counts, plain. -/
import Derived.Test.YtdgihbbekacgcaaGreatDoorK25
import Derived.KernelRfl
namespace Go.Proofs.W.Q9
open Go Go.Proofs Ieee
set_option linter.unusedVariables false
set_option linter.unusedSimpArgs false
set_option maxRecDepth 100000
theorem near_fl (n : Nat) : FloatKind.nearest .f64 (n : Int) = fl n := by
  unfold FloatKind.nearest FloatKind.encode fl
  have : decide ((n : Int) < 0) = false := by rw [decide_eq_false_iff_not]; omega
  rw [this, Int.natAbs_natCast]
  rfl
theorem clamp_ok {n : Nat} (h : n ≤ 1073741824) : clock_clamp (n : Int) = some (fl n) := by
  unfold clock_clamp
  rw [if_neg (by omega : ¬ (1073741824 : Int) < (n : Int))]
  by_cases h0 : n = 0
  · subst h0; rw [if_neg (by simp)]; rw [← near_fl]; rfl
  · rw [if_pos (by omega), near_fl]
theorem flM : (4742290407621132288 : Nat) = fl 1073741824 := by kernel_rfl
theorem fl1 : (4607182418800017408 : Nat) = fl 1 := by kernel_rfl
theorem ord_fl {a b : Nat} (ha : a ≤ 2 ^ 31) (hb : b ≤ 2 ^ 31) : (FloatKind.format .f64).order (fl a) (fl b) = some (compare a b) := order_is (fl_is a ha) (fl_is b hb)
theorem geq_fl {a b : Nat} (ha : a ≤ 2 ^ 31) (hb : b ≤ 2 ^ 31) : fcmpF .geq .f64 (fl a) (fl b) = decide (b ≤ a) := by
  unfold fcmpF
  simp only [ord_fl ha hb]
  rcases Nat.lt_trichotomy a b with h | h | h
  · rw [Nat.compare_eq_lt.2 h]; simp; omega
  · subst h; simp
  · rw [Nat.compare_eq_gt.2 h]; simp; omega
theorem gtr_fl {a b : Nat} (ha : a ≤ 2 ^ 31) (hb : b ≤ 2 ^ 31) : fcmpF .gtr .f64 (fl a) (fl b) = decide (b < a) := by
  unfold fcmpF
  simp only [ord_fl ha hb]
  rcases Nat.lt_trichotomy a b with h | h | h
  · rw [Nat.compare_eq_lt.2 h]; simp; omega
  · subst h; simp
  · rw [Nat.compare_eq_gt.2 h]; simp; omega
theorem add_fl {R : Type} {a b : Nat} (h : a + b ≤ 2 ^ 31) (f : Nat → Option R) : faddF .f64 (fl a) (fl b) f = f (fl (a + b)) := by
  unfold faddF
  have : (FloatKind.format .f64).add (fl a) (fl b) = some (fl (a + b)) := add_is (fl_is a (by omega)) (fl_is b (by omega)) h
  rw [this]
theorem int_fl {R : Type} {a : Nat} (ha : a ≤ 2 ^ 31) (f : Int → Option R) : f2iF .f64 (fl a) .i64 f = f (a : Int) := by
  unfold f2iF
  have : (FloatKind.decode .f64 (fl a)).toInt .zero = some (a : Int) := int_is (fl_is a ha)
  rw [this]
  have h1 : IntKind.min .i64 = -9223372036854775808 := by decide
  have h2 : IntKind.max .i64 = 9223372036854775807 := by decide
  show (if IntKind.min .i64 ≤ (a : Int) ∧ (a : Int) ≤ IntKind.max .i64 then f a else none) = _
  rw [h1, h2, if_pos (by omega)]
theorem count_ok {n : Nat} (h : n ≤ 2 ^ 31) : clock_count (fl n) = some ((min n 1073741824 : Nat) : Int) := by
  unfold clock_count
  rw [flM, geq_fl h (by decide)]
  by_cases h1 : 1073741824 ≤ n
  · rw [if_pos (by simpa using h1), Nat.min_eq_right h1]; rfl
  · rw [if_neg (by simpa using h1), Nat.min_eq_left (by omega)]
    have : fcmpF .gtr .f64 (fl n) 0 = decide (0 < n) := gtr_fl (b := 0) h (by decide)
    rw [this]
    by_cases h0 : 0 < n
    · rw [if_pos (by simpa using h0), int_fl h]
    · rw [if_neg (by simpa using h0)]
      have : n = 0 := by omega
      subst this; rfl
theorem of_ok {a b : Nat} (ha : a ≤ 1073741824) (hb : b ≤ 1073741824) : clock_Of ((a : Int), (b : Int)) = some (fl a, fl b) := by
  unfold clock_Of
  simp only [clamp_ok ha, clamp_ok hb, Option.bind_some]
theorem pair_ok {a b : Nat} (ha : a ≤ 2 ^ 31) (hb : b ≤ 2 ^ 31) : clock_Pair (fl a, fl b) = some (((min a 1073741824 : Nat) : Int), ((min b 1073741824 : Nat) : Int)) := by
  unfold clock_Pair
  simp only [count_ok ha, count_ok hb, Option.bind_some]
theorem whole_ok {a b : Nat} (ha : a ≤ 2 ^ 31) (hb : b ≤ 2 ^ 31) : clock_whole (fl a, fl b) = some (fl (min a 1073741824), fl (min b 1073741824)) := by
  unfold clock_whole
  simp only [pair_ok ha hb, Option.bind_some, of_ok (Nat.min_le_right a 1073741824) (Nat.min_le_right b 1073741824)]
def oddB (n : Int) : Bool := bitsI .and .i64 n 1 == 1
def tickN (p : Nat × Nat) (n : Int) : Nat × Nat := if oddB n then (p.1, min (p.2 + 1) 1073741824) else (min (p.1 + 1) 1073741824, p.2)
theorem tick_ok {a b : Nat} (ha : a ≤ 1073741824) (hb : b ≤ 1073741824) (n : Int) : clock_Tick ((fl a, fl b), n) = some (fl (tickN (a, b) n).1, fl (tickN (a, b) n).2) := by
  unfold clock_Tick tickN
  have ha' : a ≤ 2 ^ 31 := by omega
  have hb' : b ≤ 2 ^ 31 := by omega
  rw [show (bitsI .and .i64 n 1 == 1) = oddB n from rfl]
  simp only [whole_ok ha' hb', Option.bind_some, Nat.min_eq_left ha, Nat.min_eq_left hb]
  cases oddB n
  · simp only [Bool.false_eq_true, if_false]
    rw [fl1, add_fl (by omega)]
    have : ∀ (f : Nat → Option (Nat × Nat)), faddF .f64 (fl b) 0 f = f (fl b) := fun f => add_fl (a := b) (b := 0) (by omega) f
    rw [this, whole_ok (by omega) hb', Nat.min_eq_left hb]
    rfl
  · simp only [if_true]
    rw [fl1]
    have : ∀ (f : Nat → Option (Nat × Nat)), faddF .f64 (fl a) 0 f = f (fl a) := fun f => add_fl (a := a) (b := 0) (by omega) f
    rw [this, add_fl (by omega), whole_ok ha' (by omega), Nat.min_eq_left ha]
    rfl
end Go.Proofs.W.Q9
namespace Go.Proofs.W.Q9
open Go Go.Proofs.V
set_option linter.unusedVariables false
set_option linter.unusedSimpArgs false
/-- What a loop over an index has seen, if it answers yes. -/
theorem loop_inv {step : (Int → Option Bool) → Int → Option Bool} (n : Nat) (G : Nat → Prop) (hstep : ∀ i, i < n → ∀ again, step again (i : Int) = some true → G i ∧ again ((i + 1 : Nat) : Int) = some true) (h : fixS step fuel 0 = some true) : (∀ i, i < n → G i) ∧ ∃ again, step again (n : Int) = some true := by
  rw [fixS_eq] at h
  have key : ∀ (k i m : Nat), i + k = n → fixN step m (i : Int) = some true → (∀ j, i ≤ j → j < n → G j) ∧ ∃ again, step again (n : Int) = some true := by
    intro k
    induction k with
    | zero =>
      intro i m hi hm
      have : i = n := by omega
      subst this
      cases m with
      | zero => cases hm
      | succ m => exact ⟨fun j h1 h2 => by omega, _, hm⟩
    | succ k ih =>
      intro i m hi hm
      cases m with
      | zero => cases hm
      | succ m =>
        obtain ⟨g, hm⟩ := hstep i (by omega) _ hm
        obtain ⟨k1, k2⟩ := ih (i + 1) m (by omega) hm
        refine ⟨fun j h1 h2 => ?_, k2⟩
        by_cases e : j = i
        · subst e; exact g
        · exact k1 j (by omega) h2
  obtain ⟨k1, k2⟩ := key n 0 fuel (by omega) h
  exact ⟨fun i hi => k1 i (by omega) hi, k2⟩
theorem loop_true {step : (Int → Option Bool) → Int → Option Bool} (n : Nat) (hn : n < 1180591620717411303424) (hlast : ∀ again, step again (n : Int) = some true) (hstep : ∀ i, i < n → ∀ again, again ((i + 1 : Nat) : Int) = some true → step again (i : Int) = some true) : fixS step fuel 0 = some true := by
  rw [fixS_eq]
  have key : ∀ (k i m : Nat), i + k = n → k < m → fixN step m (i : Int) = some true := by
    intro k
    induction k with
    | zero =>
      intro i m hi hm
      obtain ⟨m, rfl⟩ : ∃ m', m = m' + 1 := ⟨m - 1, by omega⟩
      have : i = n := by omega
      subst this
      rw [fixN]; exact hlast _
    | succ k ih =>
      intro i m hi hm
      obtain ⟨m, rfl⟩ : ∃ m', m = m' + 1 := ⟨m - 1, by omega⟩
      rw [fixN]
      exact hstep i (by omega) _ (ih (i + 1) m (by omega) (by omega))
  exact key n 0 fuel (by omega) hn
/-- A clock of counts. -/
structure ClOk (c : Int × Int) : Prop where
  a0 : 0 ≤ c.1
  a1 : c.1 ≤ 1073741824
  b0 : 0 ≤ c.2
  b1 : c.2 ≤ 1073741824
theorem clockRight_iff (c : Int × Int) : clock_Right c = some true ↔ ClOk c := by
  obtain ⟨a, b⟩ := c
  unfold clock_Right
  constructor
  · intro h
    by_cases h1 : b < a
    · have h2 : ¬ a < b := by omega
      simp only [if_pos h1, if_neg h2] at h
      split at h
      · rename_i h3
        simp only [decide_eq_true_eq, Option.some.injEq] at h h3
        constructor <;> (simp only; omega)
      · cases h
    · simp only [if_neg h1] at h
      split at h
      · rename_i h3
        simp only [decide_eq_true_eq, Option.some.injEq] at h h3
        by_cases h2 : a < b
        · rw [if_pos h2] at h; constructor <;> (simp only; omega)
        · rw [if_neg h2] at h; constructor <;> (simp only; omega)
      · cases h
  · rintro ⟨a0, a1, b0, b1⟩
    simp only at a0 a1 b0 b1
    rw [if_pos (by rw [decide_eq_true_eq]; simp only; split <;> omega)]
    simp only [Option.some.injEq, decide_eq_true_eq]
    split <;> omega
structure EnOk (e : En) : Prop where
  path : path_Right e.1 = some true
  cl : ClOk e.2.2.2
  nz : ¬ (e.2.2.2.1 = 0 ∧ e.2.2.2.2 = 0)
  empty : e.2.1 = false → e.2.2.1 = []
structure RightS (a : List En) : Prop where
  len : a.length ≤ 32
  tree : tree_Right (filesP a) = some true
  up : ∀ i, (h : i + 1 < a.length) → rgt a[i+1].1 a[i].1
  ok : ∀ e ∈ a, EnOk e
theorem pred64 {i : Nat} (h0 : 0 < i) (h : i < 4000000000000000000) : IntKind.wrap .i64 ((i : Int) - 1) = ((i - 1 : Nat) : Int) := by rw [wrapI (by omega) (by omega)]; omega
theorem right_fwd {a : List En} (hn : a.length < 4000000000000000000) (h : scan_Right a = some true) : RightS a := by
  rw [right_step] at h
  obtain ⟨k1, again, k2⟩ := loop_inv a.length (fun i => ∀ hi : i < a.length, EnOk a[i] ∧ (0 < i → rgt a[i].1 (a[i-1]'(by omega)).1)) (fun i hi again hm => by
    unfold rstep at hm
    rw [if_pos (by simp; omega), ixL_nat hi, wrap_succ (by omega)] at hm
    obtain ⟨r, hr, hm⟩ := bind_true hm
    cases r with
    | false => cases hm
    | true =>
    rw [if_neg (by simp)] at hm
    have tail : ((clock_Right (a[i].2.2.2.1, a[i].2.2.2.2)).bind fun r6 => if (!r6) = true then some false else if ((a[i].2.2.2.1 == 0) && (a[i].2.2.2.2 == 0)) = true then some false else if (!a[i].2.1) = true then (if (!(a[i].2.2.1 == [])) = true then some false else again ((i + 1 : Nat) : Int)) else again ((i + 1 : Nat) : Int)) = some true → (0 < i → rgt a[i].1 (a[i-1]'(by omega)).1) → (∀ hi : i < a.length, EnOk a[i] ∧ (0 < i → rgt a[i].1 (a[i-1]'(by omega)).1)) ∧ again ((i + 1 : Nat) : Int) = some true := by
      intro hm q
      obtain ⟨r2, hr2, hm⟩ := bind_true hm
      cases r2 with
      | false => cases hm
      | true =>
      rw [if_neg (by simp)] at hm
      split at hm
      · cases hm
      rename_i hz
      have hz' : ¬ (a[i].2.2.2.1 = 0 ∧ a[i].2.2.2.2 = 0) := by simpa using hz
      have hcl := (clockRight_iff _).1 hr2
      split at hm
      · rename_i hh
        split at hm
        · cases hm
        · rename_i hd
          exact ⟨fun _ => ⟨⟨hr, hcl, hz', fun _ => by simpa using hd⟩, q⟩, hm⟩
      · rename_i hh
        exact ⟨fun _ => ⟨⟨hr, hcl, hz', fun e => by rw [e] at hh; simp at hh⟩, q⟩, hm⟩
    split at hm
    · rename_i hpos
      have hpos : 0 < i := by simpa using hpos
      rw [pred64 hpos (by omega), ixL_nat (by omega)] at hm
      split at hm
      · cases hm
      rename_i hlt
      exact tail hm fun _ => by simpa [rgt] using hlt
    · rename_i hpos
      exact tail hm fun h0 => absurd (by simpa using h0) hpos) h
  unfold rstep at k2
  rw [if_neg (by simp)] at k2
  split at k2
  · rename_i hl
    have hl' : a.length ≤ 32 := by
      have : (a.length : Int) ≤ 32 := by simpa using hl
      omega
    obtain ⟨fs, hfs, k2⟩ := bind_true k2
    obtain ⟨r9, hr9, k3⟩ := bind_true k2
    rw [files_ok a (by omega)] at hfs
    cases hfs
    cases k3
    refine ⟨hl', hr9, fun i hi => by simpa using (k1 (i + 1) hi hi).2 (by omega), fun e he => ?_⟩
    obtain ⟨i, hi, rfl⟩ := List.getElem_of_mem he
    exact (k1 i hi hi).1
  · cases k2
theorem RightS.A {a : List En} (h : RightS a) : RightA a := ⟨h.len, h.tree, h.up, fun i hi => (h.ok _ (List.getElem_mem hi)).empty⟩
end Go.Proofs.W.Q9
namespace Go.Proofs.W.Q9
open Go Go.Proofs.V
set_option linter.unusedVariables false
set_option linter.unusedSimpArgs false
abbrev Les (x y : List UInt8) : Prop := Op.bytesLess x y = true
def Asc {α : Type} (f : α → List UInt8) (l : List α) : Prop := l.Pairwise (fun x y => Les (f x) (f y))
theorem asc_of {α : Type} (f : α → List UInt8) : ∀ (a : List α), (∀ i, (h : i + 1 < a.length) → rgt (f a[i+1]) (f a[i])) → Asc f a
  | [], _ => List.Pairwise.nil
  | e :: l, h1 => by
    have ih := asc_of f l (fun i hi => h1 (i + 1) (by simpa using hi))
    refine List.Pairwise.cons ?_ ih
    cases l with
    | nil => intro f hf; simp at hf
    | cons g l =>
      have h0 : Les (f e) (f g) := less_of_rgt (h1 0 (by simp))
      intro b hb
      rcases List.mem_cons.1 hb with rfl | hb
      · exact h0
      · exact less_trans h0 (List.rel_of_pairwise_cons ih hb)
/-- A pair of both. -/
def PairOk (l : List En) (t : List Fi) (p : En × En) : Prop :=
  (p.1 ∈ l ∧ p.2 = gone p.1.1) ∨ (∃ f ∈ t, p.1 = gone f.1 ∧ p.2 = has f ∧ ∀ e ∈ l, e.1 ≠ f.1) ∨ (p.1 ∈ l ∧ ∃ f ∈ t, p.2 = has f ∧ f.1 = p.1.1)
theorem PairOk.path {l : List En} {t : List Fi} {p : En × En} (h : PairOk l t p) : p.2.1 = p.1.1 := by
  rcases h with ⟨_, h⟩ | ⟨f, _, h1, h2, _⟩ | ⟨_, f, _, h1, h2⟩
  · rw [h]; rfl
  · rw [h1, h2]; rfl
  · rw [h1]; exact h2
theorem PairOk.mem {l : List En} {t : List Fi} {p : En × En} (h : PairOk l t p) : (∃ e ∈ l, e.1 = p.1.1) ∨ (∃ f ∈ t, f.1 = p.1.1) := by
  rcases h with ⟨h, _⟩ | ⟨f, hf, h1, _⟩ | ⟨h, _⟩
  · exact .inl ⟨_, h, rfl⟩
  · exact .inr ⟨f, hf, by rw [h1]; rfl⟩
  · exact .inl ⟨_, h, rfl⟩
end Go.Proofs.W.Q9
namespace Go.Proofs.W.Q9
open Go Go.Proofs.V
set_option linter.unusedVariables false
set_option linter.unusedSimpArgs false
def ch (p : En × En) : Bool := !((p.2.1 == p.1.1) && ((p.2.2.1 == p.1.2.1) && (p.2.2.2.1 == p.1.2.2.1)))
def tickZ (c : Int × Int) (n : Int) : Int × Int := (((tickN (c.1.toNat, c.2.toNat) n).1 : Int), ((tickN (c.1.toNat, c.2.toNat) n).2 : Int))
def outP (n : Int) (p : En × En) : En := if ch p = true then (p.2.1, (p.2.2.1, (p.2.2.2.1, tickZ p.1.2.2.2 n))) else p.1
def fullP (n : Int) (p : En × En) : Bool := ch p && (((tickZ p.1.2.2.2 n).1 == p.1.2.2.2.1) && ((tickZ p.1.2.2.2 n).2 == p.1.2.2.2.2))
theorem ClOk.nat {c : Int × Int} (h : ClOk c) : ∃ a b : Nat, c = ((a : Int), (b : Int)) ∧ a ≤ 1073741824 ∧ b ≤ 1073741824 := by
  obtain ⟨x, y⟩ := c
  obtain ⟨h1, h2, h3, h4⟩ := h
  simp only at h1 h2 h3 h4
  exact ⟨x.toNat, y.toNat, by rw [Int.toNat_of_nonneg h1, Int.toNat_of_nonneg h3], by omega, by omega⟩
theorem tick_le {a b : Nat} (ha : a ≤ 1073741824) (hb : b ≤ 1073741824) (n : Int) : (tickN (a, b) n).1 ≤ 1073741824 ∧ (tickN (a, b) n).2 ≤ 1073741824 := by
  unfold tickN
  split
  · exact ⟨ha, Nat.min_le_right _ _⟩
  · exact ⟨Nat.min_le_right _ _, hb⟩
theorem clockTick_ok {R : Type} {c : Int × Int} (h : ClOk c) (n : Int) (f : Int × Int → Option R) : ((clock_Of (c.1, c.2)).bind fun r1 => (clock_Tick ((r1.1, r1.2), n)).bind fun r2 => (clock_Pair (r2.1, r2.2)).bind f) = f (tickZ c n) := by
  obtain ⟨a, b, rfl, ha, hb⟩ := h.nat
  obtain ⟨h1, h2⟩ := tick_le ha hb n
  simp only [of_ok ha hb, Option.bind_some, tick_ok ha hb]
  rw [pair_ok (by omega) (by omega), Option.bind_some, Nat.min_eq_left h1, Nat.min_eq_left h2]
  rfl
theorem step_ch {R : Type} {p : En × En} (hp : ch p = true) (hc : ClOk p.1.2.2.2) {n : Int} {x : List En} {y : List (List UInt8)} {z : Int} {ents : List En} {ps : List (List UInt8)} (hl : ents.length < 600000000000) (hl2 : ps.length < 600000000000) {k kr : Int × (List En × (List (List UInt8) × (Int × (List En × List (List UInt8))))) → Option R} :
    scan_step p (n, (x, (y, (z, (ents, ps))))) k kr = if fullP n p = true then kr (n, ([], ([], (2, (ents, ps ++ [p.2.1]))))) else k (n, (x, (y, (z, (ents ++ [outP n p], ps ++ [p.2.1]))))) := by
  unfold scan_step
  have hc2 : (!((p.2.1 == p.1.1) && ((p.2.2.1 == p.1.2.1) && ((p.2.2.2.1 == p.1.2.2.1) && ((p.1.2.2.2.1 == p.1.2.2.2.1) && (p.1.2.2.2.2 == p.1.2.2.2.2)))))) = true := by
    simp only [beq_self_eq_true, Bool.and_self, Bool.and_true]
    exact hp
  rw [if_pos hc2, clockTick_ok hc]
  rw [if_pos (fits16 (by simp; omega))]
  have e1 : fullP n p = (((tickZ p.1.2.2.2 n).1 == p.1.2.2.2.1) && ((tickZ p.1.2.2.2 n).2 == p.1.2.2.2.2)) := by unfold fullP; rw [hp, Bool.true_and]
  have e2 : outP n p = (p.2.1, (p.2.2.1, (p.2.2.2.1, ((tickZ p.1.2.2.2 n).1, (tickZ p.1.2.2.2 n).2)))) := by unfold outP; rw [if_pos hp]
  rw [e1, e2]
  split
  · rfl
  · rw [if_pos (fits56 (by simp; omega))]
theorem same_of {p : En × En} (hp : ch p = false) : same p := by
  unfold ch at hp
  simp only [Bool.not_eq_false', Bool.and_eq_true, beq_iff_eq] at hp
  exact hp
theorem range_all {R : Type} {n : Int} {k kr : Int × (List En × (List (List UInt8) × (Int × (List En × List (List UInt8))))) → Option R} : ∀ (xs : List (En × En)) (x : List En) (y : List (List UInt8)) (z : Int) (ents : List En) (ps : List (List UInt8)), (∀ p ∈ xs, ClOk p.1.2.2.2) → ents.length + xs.length < 600000000000 → ps.length + xs.length < 600000000000 → xs.any (fullP n) = false → rangeP scan_step xs (n, (x, (y, (z, (ents, ps))))) k kr = k (n, (x, (y, (z, (ents ++ xs.map (outP n), ps ++ (xs.filter ch).map (·.2.1))))))
  | [], _, _, _, _, _, _, _, _, hf => by simp [rangeP]
  | p :: xs, x, y, z, ents, ps, h, hl, hl2, hf => by
    simp only [List.length_cons] at hl hl2
    rw [List.any_cons, Bool.or_eq_false_iff] at hf
    rw [rangeP]
    cases hp : ch p with
    | false =>
      rw [step_same (same_of hp) (by omega), range_all xs x y z _ _ (fun q hq => h q (by simp [hq])) (by simp; omega) (by omega) hf.2]
      rw [List.filter_cons_of_neg (by simp [hp])]
      simp [outP, hp]
    | true =>
      rw [step_ch hp (h p (by simp)) (by omega) (by omega), if_neg (by simp [hf.1]), range_all xs x y z _ _ (fun q hq => h q (by simp [hq])) (by simp; omega) (by simp; omega) hf.2]
      rw [List.filter_cons_of_pos hp]
      simp
section
variable {l : List En} {t : List Fi} (hl : RightS l) (ht : tree_Right t = some true)
include hl ht
end
end Go.Proofs.W.Q9
namespace Go.Proofs.W.Q9
open Go Go.Proofs.V
set_option linter.unusedVariables false
set_option linter.unusedSimpArgs false
/-- A loop with an invariant of its own. -/
theorem loop_run {S R : Type} {step : (S → Option R) → S → Option R} (n : Nat) (I : Nat → S → Prop) (r : Option R) (hn : n < 1180591620717411303424) (hlast : ∀ again s, I n s → step again s = r) (hstep : ∀ i, i < n → ∀ again s, I i s → (∀ s', I (i + 1) s' → again s' = r) → step again s = r) {s0 : S} (h0 : I 0 s0) : fixS step fuel s0 = r := by
  rw [fixS_eq]
  have key : ∀ (k i m : Nat) (s : S), i + k = n → k < m → I i s → fixN step m s = r := by
    intro k
    induction k with
    | zero =>
      intro i m s hi hm hs
      obtain ⟨m, rfl⟩ : ∃ m', m = m' + 1 := ⟨m - 1, by omega⟩
      have : i = n := by omega
      subst this
      rw [fixN]; exact hlast _ _ hs
    | succ k ih =>
      intro i m s hi hm hs
      obtain ⟨m, rfl⟩ : ∃ m', m = m' + 1 := ⟨m - 1, by omega⟩
      rw [fixN]
      exact hstep i (by omega) _ s hs fun s' hs' => ih (i + 1) m s' (by omega) (by omega) hs'
  exact key n 0 fuel s0 (by omega) hn h0
end Go.Proofs.W.Q9
