/- Clocks of counts, plain. -/
import Derived.Test.YtboeaelijjamoaaGreatDoorK29
import Derived.KernelRfl
namespace Go.Proofs.W.Q9
open Go Go.Proofs Ieee
set_option linter.unusedVariables false
set_option linter.unusedSimpArgs false
set_option maxRecDepth 100000
def oddB (n : Int) : Bool := bitsI .and .i64 n 1 == 1
def tickN (p : Nat × Nat) (n : Int) : Nat × Nat := if oddB n then (p.1, min (p.2 + 1) 1073741824) else (min (p.1 + 1) 1073741824, p.2)
end Go.Proofs.W.Q9
namespace Go.Proofs.W.Q9
open Go Go.Proofs.V
set_option linter.unusedVariables false
set_option linter.unusedSimpArgs false
/-- What a loop over an index has seen, if it answers yes. -/
theorem loop_inv {step : (Int → Option Bool) → Int → Option Bool} (n : Nat) (G : Nat → Prop) (hstep : ∀ i, i < n → ∀ again, step again (i : Int) = some true → G i ∧ again ((i + 1 : Nat) : Int) = some true) (h : fixS step fuel 0 = some true) : (∀ i, i < n → G i) ∧ ∃ again, step again (n : Int) = some true := by
  rw [fixS_eq] at h
  have key : ∀ (k i m : Nat), i + k = n → fixN step m (i : Int) = some true → (∀ j, i ≤ j → j < n → G j) ∧ ∃ again, step again (n : Int) = some true := by
    intro k
    induction k with
    | zero =>
      intro i m hi hm
      have : i = n := by omega
      subst this
      cases m with
      | zero => cases hm
      | succ m => exact ⟨fun j h1 h2 => by omega, _, hm⟩
    | succ k ih =>
      intro i m hi hm
      cases m with
      | zero => cases hm
      | succ m =>
        obtain ⟨g, hm⟩ := hstep i (by omega) _ hm
        obtain ⟨k1, k2⟩ := ih (i + 1) m (by omega) hm
        refine ⟨fun j h1 h2 => ?_, k2⟩
        by_cases e : j = i
        · subst e; exact g
        · exact k1 j (by omega) h2
  obtain ⟨k1, k2⟩ := key n 0 fuel (by omega) h
  exact ⟨fun i hi => k1 i (by omega) hi, k2⟩
theorem loop_true {step : (Int → Option Bool) → Int → Option Bool} (n : Nat) (hn : n < 1180591620717411303424) (hlast : ∀ again, step again (n : Int) = some true) (hstep : ∀ i, i < n → ∀ again, again ((i + 1 : Nat) : Int) = some true → step again (i : Int) = some true) : fixS step fuel 0 = some true := by
  rw [fixS_eq]
  have key : ∀ (k i m : Nat), i + k = n → k < m → fixN step m (i : Int) = some true := by
    intro k
    induction k with
    | zero =>
      intro i m hi hm
      obtain ⟨m, rfl⟩ : ∃ m', m = m' + 1 := ⟨m - 1, by omega⟩
      have : i = n := by omega
      subst this
      rw [fixN]; exact hlast _
    | succ k ih =>
      intro i m hi hm
      obtain ⟨m, rfl⟩ : ∃ m', m = m' + 1 := ⟨m - 1, by omega⟩
      rw [fixN]
      exact hstep i (by omega) _ (ih (i + 1) m (by omega) (by omega))
  exact key n 0 fuel (by omega) hn
/-- A clock of counts. -/
structure ClOk (c : Int × Int) : Prop where
  a0 : 0 ≤ c.1
  a1 : c.1 ≤ 1073741824
  b0 : 0 ≤ c.2
  b1 : c.2 ≤ 1073741824
theorem clockRight_iff (c : Int × Int) : clock_Right c = some true ↔ ClOk c := by
  obtain ⟨a, b⟩ := c
  unfold clock_Right
  constructor
  · intro h
    by_cases h1 : b < a
    · have h2 : ¬ a < b := by omega
      simp only [if_pos h1, if_neg h2] at h
      split at h
      · rename_i h3
        simp only [decide_eq_true_eq, Option.some.injEq] at h h3
        constructor <;> (simp only; omega)
      · cases h
    · simp only [if_neg h1] at h
      split at h
      · rename_i h3
        simp only [decide_eq_true_eq, Option.some.injEq] at h h3
        by_cases h2 : a < b
        · rw [if_pos h2] at h; constructor <;> (simp only; omega)
        · rw [if_neg h2] at h; constructor <;> (simp only; omega)
      · cases h
  · rintro ⟨a0, a1, b0, b1⟩
    simp only at a0 a1 b0 b1
    rw [if_pos (by rw [decide_eq_true_eq]; simp only; split <;> omega)]
    simp only [Option.some.injEq, decide_eq_true_eq]
    split <;> omega
structure EnOk (e : En) : Prop where
  path : path_Right e.1 = some true
  cl : ClOk e.2.2.2
  nz : ¬ (e.2.2.2.1 = 0 ∧ e.2.2.2.2 = 0)
  empty : e.2.1 = false → e.2.2.1 = []
structure RightS (a : List En) : Prop where
  len : a.length ≤ 32
  tree : tree_Right (filesP a) = some true
  up : ∀ i, (h : i + 1 < a.length) → rgt a[i+1].1 a[i].1
  ok : ∀ e ∈ a, EnOk e
theorem pred64 {i : Nat} (h0 : 0 < i) (h : i < 4000000000000000000) : IntKind.wrap .i64 ((i : Int) - 1) = ((i - 1 : Nat) : Int) := by rw [wrapI (by omega) (by omega)]; omega
theorem right_fwd {a : List En} (hn : a.length < 4000000000000000000) (h : scan_Right a = some true) : RightS a := by
  rw [right_step] at h
  obtain ⟨k1, again, k2⟩ := loop_inv a.length (fun i => ∀ hi : i < a.length, EnOk a[i] ∧ (0 < i → rgt a[i].1 (a[i-1]'(by omega)).1)) (fun i hi again hm => by
    unfold rstep at hm
    rw [if_pos (by simp; omega), ixL_nat hi, wrap_succ (by omega)] at hm
    obtain ⟨r, hr, hm⟩ := bind_true hm
    cases r with
    | false => cases hm
    | true =>
    rw [if_neg (by simp)] at hm
    have tail : ((clock_Right (a[i].2.2.2.1, a[i].2.2.2.2)).bind fun r6 => if (!r6) = true then some false else if ((a[i].2.2.2.1 == 0) && (a[i].2.2.2.2 == 0)) = true then some false else if (!a[i].2.1) = true then (if (!(a[i].2.2.1 == [])) = true then some false else again ((i + 1 : Nat) : Int)) else again ((i + 1 : Nat) : Int)) = some true → (0 < i → rgt a[i].1 (a[i-1]'(by omega)).1) → (∀ hi : i < a.length, EnOk a[i] ∧ (0 < i → rgt a[i].1 (a[i-1]'(by omega)).1)) ∧ again ((i + 1 : Nat) : Int) = some true := by
      intro hm q
      obtain ⟨r2, hr2, hm⟩ := bind_true hm
      cases r2 with
      | false => cases hm
      | true =>
      rw [if_neg (by simp)] at hm
      split at hm
      · cases hm
      rename_i hz
      have hz' : ¬ (a[i].2.2.2.1 = 0 ∧ a[i].2.2.2.2 = 0) := by simpa using hz
      have hcl := (clockRight_iff _).1 hr2
      split at hm
      · rename_i hh
        split at hm
        · cases hm
        · rename_i hd
          exact ⟨fun _ => ⟨⟨hr, hcl, hz', fun _ => by simpa using hd⟩, q⟩, hm⟩
      · rename_i hh
        exact ⟨fun _ => ⟨⟨hr, hcl, hz', fun e => by rw [e] at hh; simp at hh⟩, q⟩, hm⟩
    split at hm
    · rename_i hpos
      have hpos : 0 < i := by simpa using hpos
      rw [pred64 hpos (by omega), ixL_nat (by omega)] at hm
      split at hm
      · cases hm
      rename_i hlt
      exact tail hm fun _ => by simpa [rgt] using hlt
    · rename_i hpos
      exact tail hm fun h0 => absurd (by simpa using h0) hpos) h
  unfold rstep at k2
  rw [if_neg (by simp)] at k2
  split at k2
  · rename_i hl
    have hl' : a.length ≤ 32 := by
      have : (a.length : Int) ≤ 32 := by simpa using hl
      omega
    obtain ⟨fs, hfs, k2⟩ := bind_true k2
    obtain ⟨r9, hr9, k3⟩ := bind_true k2
    rw [files_ok a (by omega)] at hfs
    cases hfs
    cases k3
    refine ⟨hl', hr9, fun i hi => by simpa using (k1 (i + 1) hi hi).2 (by omega), fun e he => ?_⟩
    obtain ⟨i, hi, rfl⟩ := List.getElem_of_mem he
    exact (k1 i hi hi).1
  · cases k2
theorem RightS.A {a : List En} (h : RightS a) : RightA a := ⟨h.len, h.tree, h.up, fun i hi => (h.ok _ (List.getElem_mem hi)).empty⟩
end Go.Proofs.W.Q9
namespace Go.Proofs.W.Q9
open Go Go.Proofs.V
set_option linter.unusedVariables false
set_option linter.unusedSimpArgs false
abbrev Les (x y : List UInt8) : Prop := Op.bytesLess x y = true
def Asc {α : Type} (f : α → List UInt8) (l : List α) : Prop := l.Pairwise (fun x y => Les (f x) (f y))
theorem les_ne {x y : List UInt8} (h : Les x y) : x ≠ y := by
  rintro rfl
  have := bytesLess_irr x
  rw [Les, this] at h
  cases h
theorem asc_of {α : Type} (f : α → List UInt8) : ∀ (a : List α), (∀ i, (h : i + 1 < a.length) → rgt (f a[i+1]) (f a[i])) → Asc f a
  | [], _ => List.Pairwise.nil
  | e :: l, h1 => by
    have ih := asc_of f l (fun i hi => h1 (i + 1) (by simpa using hi))
    refine List.Pairwise.cons ?_ ih
    cases l with
    | nil => intro f hf; simp at hf
    | cons g l =>
      have h0 : Les (f e) (f g) := less_of_rgt (h1 0 (by simp))
      intro b hb
      rcases List.mem_cons.1 hb with rfl | hb
      · exact h0
      · exact less_trans h0 (List.rel_of_pairwise_cons ih hb)
theorem rgt_of {x y : List UInt8} (h : Les y x) : rgt x y := by
  unfold rgt
  simp only [Bool.or_eq_false_iff, beq_eq_false_iff_ne, ne_eq]
  refine ⟨?_, fun e => les_ne h e.symm⟩
  cases hb : Op.bytesLess x y with
  | false => rfl
  | true => exact absurd rfl (les_ne (less_trans hb h))
theorem up_of {α : Type} {f : α → List UInt8} {a : List α} (h : Asc f a) (i : Nat) (hi : i + 1 < a.length) : rgt (f a[i+1]) (f a[i]) :=
  rgt_of (List.pairwise_iff_getElem.1 h i (i + 1) (by omega) hi (by omega))
/-- A pair of both. -/
def PairOk (l : List En) (t : List Fi) (p : En × En) : Prop :=
  (p.1 ∈ l ∧ p.2 = gone p.1.1) ∨ (∃ f ∈ t, p.1 = gone f.1 ∧ p.2 = has f ∧ ∀ e ∈ l, e.1 ≠ f.1) ∨ (p.1 ∈ l ∧ ∃ f ∈ t, p.2 = has f ∧ f.1 = p.1.1)
theorem PairOk.path {l : List En} {t : List Fi} {p : En × En} (h : PairOk l t p) : p.2.1 = p.1.1 := by
  rcases h with ⟨_, h⟩ | ⟨f, _, h1, h2, _⟩ | ⟨_, f, _, h1, h2⟩
  · rw [h]; rfl
  · rw [h1, h2]; rfl
  · rw [h1]; exact h2
theorem PairOk.mem {l : List En} {t : List Fi} {p : En × En} (h : PairOk l t p) : (∃ e ∈ l, e.1 = p.1.1) ∨ (∃ f ∈ t, f.1 = p.1.1) := by
  rcases h with ⟨h, _⟩ | ⟨f, hf, h1, _⟩ | ⟨h, _⟩
  · exact .inl ⟨_, h, rfl⟩
  · exact .inr ⟨f, hf, by rw [h1]; rfl⟩
  · exact .inl ⟨_, h, rfl⟩
end Go.Proofs.W.Q9
namespace Go.Proofs.W.Q9
open Go Go.Proofs.V
set_option linter.unusedVariables false
set_option linter.unusedSimpArgs false
def ch (p : En × En) : Bool := !((p.2.1 == p.1.1) && ((p.2.2.1 == p.1.2.1) && (p.2.2.2.1 == p.1.2.2.1)))
def tickZ (c : Int × Int) (n : Int) : Int × Int := (((tickN (c.1.toNat, c.2.toNat) n).1 : Int), ((tickN (c.1.toNat, c.2.toNat) n).2 : Int))
def outP (n : Int) (p : En × En) : En := if ch p = true then (p.2.1, (p.2.2.1, (p.2.2.2.1, tickZ p.1.2.2.2 n))) else p.1
section
variable {l : List En} {t : List Fi} (hl : RightS l) (ht : tree_Right t = some true)
include hl ht
end
end Go.Proofs.W.Q9
namespace Go.Proofs.W.Q9
open Go Go.Proofs.V
set_option linter.unusedVariables false
set_option linter.unusedSimpArgs false
/-- A loop with an invariant of its own. -/
theorem loop_run {S R : Type} {step : (S → Option R) → S → Option R} (n : Nat) (I : Nat → S → Prop) (r : Option R) (hn : n < 1180591620717411303424) (hlast : ∀ again s, I n s → step again s = r) (hstep : ∀ i, i < n → ∀ again s, I i s → (∀ s', I (i + 1) s' → again s' = r) → step again s = r) {s0 : S} (h0 : I 0 s0) : fixS step fuel s0 = r := by
  rw [fixS_eq]
  have key : ∀ (k i m : Nat) (s : S), i + k = n → k < m → I i s → fixN step m s = r := by
    intro k
    induction k with
    | zero =>
      intro i m s hi hm hs
      obtain ⟨m, rfl⟩ : ∃ m', m = m' + 1 := ⟨m - 1, by omega⟩
      have : i = n := by omega
      subst this
      rw [fixN]; exact hlast _ _ hs
    | succ k ih =>
      intro i m s hi hm hs
      obtain ⟨m, rfl⟩ : ∃ m', m = m' + 1 := ⟨m - 1, by omega⟩
      rw [fixN]
      exact hstep i (by omega) _ s hs fun s' hs' => ih (i + 1) m s' (by omega) (by omega) hs'
  exact key n 0 fuel s0 (by omega) hn h0
theorem sum_take {α : Type} (f : α → Int) (l : List α) {i : Nat} (h : i < l.length) : ((l.take (i + 1)).map f).sum = ((l.take i).map f).sum + f l[i] := by
  rw [List.take_succ_eq_append_getElem h, List.map_append, List.sum_append]
  simp
end Go.Proofs.W.Q9
