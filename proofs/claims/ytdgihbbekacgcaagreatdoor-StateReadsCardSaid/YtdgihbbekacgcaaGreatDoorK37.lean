/- What ScanTells asks beside Scan: plain. -/
import Derived.Test.YtdgihbbekacgcaaGreatDoorK35
import Derived.Test.YtdgihbbekacgcaaGreatDoorK36
import Derived.Test.YtdgihbbekacgcaaGreatDoorK29
import Derived.Test.YtdgihbbekacgcaaGreatDoorK30
import Derived.Test.YtdgihbbekacgcaaGreatDoorK28
namespace Go.Proofs.W.Q10
open Go Go.Proofs.V Go.Proofs.W.Q9
set_option linter.unusedVariables false
set_option linter.unusedSimpArgs false
theorem refsameR (a : List En) (hl : a.length < 1000000000) : ref09_Same (a, a) = some true := by
  unfold ref09_Same
  dsimp only
  rw [if_neg (by simp)]
  refine loop_true a.length (by omega) (fun again => by rw [if_neg (by simp)]) fun i hi again ha => ?_
  rw [if_pos (by simp; omega), ixL_nat hi, ixL_nat hi, wrap_succ (by omega), if_neg (by simp), ha]
theorem refsameT (a : List Fi) (hl : a.length < 1000000000) : ref04_Same (a, a) = some true := by
  unfold ref04_Same
  dsimp only
  rw [if_neg (by simp)]
  refine loop_true a.length (by omega) (fun again => by rw [if_neg (by simp)]) fun i hi again ha => ?_
  rw [if_pos (by simp; omega), ixL_nat hi, ixL_nat hi, wrap_succ (by omega), if_neg (by simp), ha]
end Go.Proofs.W.Q10
namespace Go.Proofs.W.Q17
open Go Go.Proofs.V Go.Proofs.W.Q9 Go.Proofs.W.Q10
set_option linter.unusedVariables false
set_option linter.unusedSimpArgs false
abbrev Pt := Int × List UInt8
theorem be4_len (n : Int) : (be4 n).length = 4 := rfl
theorem wi64 {x : Int} (h1 : -9000000000000000000 ≤ x) (h2 : x ≤ 9000000000000000000) : IntKind.wrap .i64 x = x := wrapI (by omega) (by omega)
def pS (s : List UInt8) : List Int := be4 s.length ++ toBL s
theorem toBL_len (s : List UInt8) : (toBL s).length = s.length := List.length_map ..
theorem pS_len (s : List UInt8) : (pS s).length = 4 + s.length := by rw [pS, List.length_append, be4_len, toBL_len]
def pF (b : Bool) : List Int := be4 (if b then 1 else 0)
def pE (e : En) : List Int := pS e.1 ++ pF e.2.1 ++ pS e.2.2.1 ++ be4 e.2.2.2.1 ++ be4 e.2.2.2.2
def pFi (e : Fi) : List Int := pS e.1 ++ pS e.2
def pP (e : Pt) : List Int := be4 e.1 ++ pS e.2
def pRow {A : Type} (f : A → List Int) (l : List A) : List Int := be4 l.length ++ l.flatMap f
theorem flat_le {A : Type} (f : A → List Int) (K : Nat) : ∀ l : List A, (∀ x ∈ l, (f x).length ≤ K) → (l.flatMap f).length ≤ l.length * K
  | [], _ => by simp
  | x :: l, h => by
    have h1 := h x (by simp)
    have h2 := flat_le f K l fun y hy => h y (by simp [hy])
    rw [List.flatMap_cons, List.length_append, List.length_cons, Nat.add_mul]
    omega
end Go.Proofs.W.Q17
namespace Go.Proofs.W.Q17
open Go Go.Proofs.V Go.Proofs.W.Q9 Go.Proofs.W.Q10
set_option linter.unusedVariables false
set_option linter.unusedSimpArgs false
abbrev St := Int × (List Fi × (List En × (Int × (Int × (Int × (Int × (List Int × (List En × (Bool × (Int × (Int × (Int × (Int × (List En × (List (List UInt8) × (List Pt × Bool))))))))))))))))
structure Small (s : St) : Prop where
  tr : s.2.1.length ≤ 40 ∧ ∀ e ∈ s.2.1, okFi e = true
  ar : s.2.2.1.length ≤ 60 ∧ ∀ e ∈ s.2.2.1, okEn e = true
  sh : s.2.2.2.2.2.2.2.2.1.length ≤ 60 ∧ ∀ e ∈ s.2.2.2.2.2.2.2.2.1, okEn e = true
  th : s.2.2.2.2.2.2.2.2.2.2.2.2.2.2.1.length ≤ 60 ∧ ∀ e ∈ s.2.2.2.2.2.2.2.2.2.2.2.2.2.2.1, okEn e = true
  own : s.2.2.2.2.2.2.2.1.length ≤ 250
  co : s.2.2.2.2.2.2.2.2.2.2.2.2.2.2.2.1.length ≤ 60 ∧ ∀ e ∈ s.2.2.2.2.2.2.2.2.2.2.2.2.2.2.2.1, e.length ≤ 100
  wa : s.2.2.2.2.2.2.2.2.2.2.2.2.2.2.2.2.1.length ≤ 250 ∧ ∀ e ∈ s.2.2.2.2.2.2.2.2.2.2.2.2.2.2.2.2.1, e.2.length ≤ 100
theorem pRow_le {A : Type} (f : A → List Int) (K n : Nat) (l : List A) (hn : l.length ≤ n) (h : ∀ x ∈ l, (f x).length ≤ K) : (pRow f l).length ≤ 4 + n * K := by
  have h1 := flat_le f K l h
  have h2 : l.length * K ≤ n * K := Nat.mul_le_mul_right _ hn
  rw [pRow, List.length_append, be4_len]; omega
def cur4 (a b c d : Int) : List Int := be4 a ++ be4 b ++ be4 c ++ be4 d
def encS : St → List Int
  | (au, tr, ar, cv, ch, ce, ca, own, sh, tu, pv, ph, pe, pa, th, co, wa, ha) =>
    be4 au ++ pRow pFi tr ++ pRow pE ar ++ cur4 cv ch ce ca ++ pRow be4 own ++ pRow pE sh ++ pF tu ++ cur4 pv ph pe pa ++ pRow pE th ++ pRow pS co ++ pRow pP wa ++ pF ha
theorem lens {s : St} (h : Small s) : (pRow pFi s.2.1).length ≤ 44324 ∧ (pRow pE s.2.2.1).length ≤ 67204 ∧ (pRow be4 s.2.2.2.2.2.2.2.1).length ≤ 1004 ∧ (pRow pE s.2.2.2.2.2.2.2.2.1).length ≤ 67204 ∧ (pRow pE s.2.2.2.2.2.2.2.2.2.2.2.2.2.2.1).length ≤ 67204 ∧ (pRow pS s.2.2.2.2.2.2.2.2.2.2.2.2.2.2.2.1).length ≤ 6244 ∧ (pRow pP s.2.2.2.2.2.2.2.2.2.2.2.2.2.2.2.2.1).length ≤ 27004 := by
  have hE : ∀ e : En, okEn e = true → (pE e).length ≤ 1120 := fun e he => by
    have : e.1.length ≤ 100 ∧ e.2.2.1.length ≤ 1000 := by simpa [okEn] using he
    simp only [pE, pF, be4_len, List.length_append, pS_len]; omega
  have hF : ∀ e : Fi, okFi e = true → (pFi e).length ≤ 1108 := fun e he => by
    have : e.1.length ≤ 100 ∧ e.2.length ≤ 1000 := by simpa [okFi] using he
    simp only [pFi, be4_len, List.length_append, pS_len]; omega
  refine ⟨pRow_le _ 1108 40 _ h.tr.1 fun x hx => hF x (h.tr.2 x hx), pRow_le _ 1120 60 _ h.ar.1 fun x hx => hE x (h.ar.2 x hx), pRow_le _ 4 250 _ h.own fun x hx => Nat.le_refl _, pRow_le _ 1120 60 _ h.sh.1 fun x hx => hE x (h.sh.2 x hx), pRow_le _ 1120 60 _ h.th.1 fun x hx => hE x (h.th.2 x hx),
    pRow_le _ 104 60 _ h.co.1 fun x hx => by have := h.co.2 x hx; rw [pS_len]; omega, pRow_le _ 108 250 _ h.wa.1 fun x hx => by have := h.wa.2 x hx; simp only [pP, List.length_append, be4_len, pS_len]; omega⟩
set_option maxRecDepth 100000
end Go.Proofs.W.Q17
namespace Go.Proofs.W.Q17
open Go Go.Proofs.V Go.Proofs.W.Q9 Go.Proofs.W.Q10
set_option linter.unusedVariables false
set_option linter.unusedSimpArgs false
set_option maxRecDepth 100000
theorem first_bad (ok : Nat → Bool) : ∀ n, (List.range n).all ok = false → ∃ k, k < n ∧ ok k = false ∧ ∀ i, i < k → ok i = true := by
  intro n
  induction n with
  | zero => intro h; simp at h
  | succ n ih =>
    intro h
    by_cases hn : (List.range n).all ok = true
    · refine ⟨n, by omega, ?_, fun i hi => ?_⟩
      · rw [List.range_succ, List.all_append, hn] at h
        simpa using h
      · exact List.all_eq_true.1 hn i (List.mem_range.2 hi)
    · obtain ⟨k, h1, h2, h3⟩ := ih (by simpa using hn)
      exact ⟨k, by omega, h2, h3⟩
/-- A loop that tests. -/
theorem loop_test {S R : Type} {step : (S → Option R) → S → Option R} (g : Int → S) (n : Nat) (hn : n < 1000000000) (ok : Nat → Bool) (r b : Option R) (hlast : ∀ again, step again (g (n : Int)) = r)
    (hstep : ∀ i, i < n → ∀ again, step again (g (i : Int)) = if ok i then again (g ((i + 1 : Nat) : Int)) else b) : fixS step fuel (g 0) = if (List.range n).all ok then r else b := by
  by_cases h : (List.range n).all ok = true
  · rw [if_pos h]
    refine loop_run (s0 := g 0) n (fun i s => s = g (i : Int)) r (by omega) (fun again s hs => by subst hs; exact hlast again) (fun i hi again s hs ha => ?_) rfl
    subst hs
    rw [hstep i hi, if_pos (List.all_eq_true.1 h i (List.mem_range.2 hi))]
    exact ha _ rfl
  · rw [if_neg h]
    obtain ⟨k, h1, h2, h3⟩ := first_bad ok n (by simpa using h)
    refine loop_run (s0 := g 0) k (fun i s => s = g (i : Int)) b (by omega) (fun again s hs => by subst hs; rw [hstep k h1, if_neg (by simp [h2])]) (fun i hi again s hs ha => ?_) rfl
    subst hs
    rw [hstep i (by omega), if_pos (h3 i hi)]
    exact ha _ rfl
/-- A loop that looks for the first one. -/
theorem loop_find {step : (Int → Option Int) → Int → Option Int} (n : Nat) (hn : n < 1000000000) (ok : Nat → Bool) (hlast : ∀ again, step again (n : Int) = some (-1))
    (hstep : ∀ i, i < n → ∀ again, step again (i : Int) = if ok i then again ((i + 1 : Nat) : Int) else some (i : Int)) : ∃ r : Int, fixS step fuel 0 = some r ∧ decide (r ≥ 0) = !(List.range n).all ok := by
  by_cases h : (List.range n).all ok = true
  · refine ⟨-1, ?_, by simp [h]⟩
    refine loop_run (s0 := 0) n (fun i s => s = (i : Int)) _ (by omega) (fun again s hs => by subst hs; exact hlast again) (fun i hi again s hs ha => ?_) rfl
    subst hs
    rw [hstep i hi, if_pos (List.all_eq_true.1 h i (List.mem_range.2 hi))]
    exact ha _ rfl
  · have hf : (List.range n).all ok = false := by simpa using h
    obtain ⟨k, h1, h2, h3⟩ := first_bad ok n hf
    refine ⟨(k : Int), ?_, by rw [hf]; simp⟩
    refine loop_run (s0 := 0) k (fun i s => s = (i : Int)) _ (by omega) (fun again s hs => by subst hs; rw [hstep k h1, if_neg (by simp [h2])]) (fun i hi again s hs ha => ?_) rfl
    subst hs
    rw [hstep i (by omega), if_pos (h3 i hi)]
    exact ha _ rfl
theorem range_all {A : Type} (l : List A) (p : A → Bool) (ok : Nat → Bool) (h : ∀ i (hi : i < l.length), ok i = p l[i]) : (List.range l.length).all ok = l.all p := by
  apply Bool.eq_iff_iff.2
  rw [List.all_eq_true, List.all_eq_true]
  constructor
  · intro H x hx
    obtain ⟨i, hi, rfl⟩ := List.mem_iff_getElem.1 hx
    rw [← h i hi]
    exact H i (List.mem_range.2 hi)
  · intro H i hi
    have hi := List.mem_range.1 hi
    rw [h i hi]
    exact H _ (List.getElem_mem hi)
theorem ints_refl (a : List Int) (hl : a.length < 1000000000) : ref12_Ints (a, a) = some true := by
  unfold ref12_Ints
  dsimp only
  rw [if_neg (by simp)]
  refine loop_true a.length (by omega) (fun again => by rw [if_neg (by simp)]) fun i hi again ha => ?_
  rw [if_pos (by simp; omega), ixL_nat hi, ixL_nat hi, wrap_succ (by omega), if_neg (by simp), ha]
theorem puts_refl (a : List Pt) (hl : a.length < 1000000000) : ref14_Puts (a, a) = some true := by
  unfold ref14_Puts
  dsimp only
  rw [if_neg (by simp)]
  refine loop_true a.length (by omega) (fun again => by rw [if_neg (by simp)]) fun i hi again ha => ?_
  rw [if_pos (by simp; omega), ixL_nat hi, ixL_nat hi, wrap_succ (by omega), if_neg (by simp), ha]
structure Mild (s : St) : Prop where
  tr : s.2.1.length < 100000
  ar : s.2.2.1.length < 100000
  sh : s.2.2.2.2.2.2.2.2.1.length < 100000
  th : s.2.2.2.2.2.2.2.2.2.2.2.2.2.2.1.length < 100000
  own : s.2.2.2.2.2.2.2.1.length < 100000
  co : s.2.2.2.2.2.2.2.2.2.2.2.2.2.2.2.1.length < 100000
  wa : s.2.2.2.2.2.2.2.2.2.2.2.2.2.2.2.2.1.length < 100000
theorem Small.mild {s : St} (h : Small s) : Mild s := ⟨by have := h.tr.1; omega, by have := h.ar.1; omega, by have := h.sh.1; omega, by have := h.th.1; omega, by have := h.own; omega, by have := h.co.1; omega, by have := h.wa.1; omega⟩
def pr (s t : St) : Int × (List Fi × (List En × (Int × (Int × (Int × (Int × (List Int × (List En × (Bool × (Int × (Int × (Int × (Int × (List En × (List (List UInt8) × (List Pt × (Bool × St))))))))))))))))) :=
  (s.1, s.2.1, s.2.2.1, s.2.2.2.1, s.2.2.2.2.1, s.2.2.2.2.2.1, s.2.2.2.2.2.2.1, s.2.2.2.2.2.2.2.1, s.2.2.2.2.2.2.2.2.1, s.2.2.2.2.2.2.2.2.2.1, s.2.2.2.2.2.2.2.2.2.2.1, s.2.2.2.2.2.2.2.2.2.2.2.1, s.2.2.2.2.2.2.2.2.2.2.2.2.1, s.2.2.2.2.2.2.2.2.2.2.2.2.2.1, s.2.2.2.2.2.2.2.2.2.2.2.2.2.2.1, s.2.2.2.2.2.2.2.2.2.2.2.2.2.2.2.1, s.2.2.2.2.2.2.2.2.2.2.2.2.2.2.2.2.1, s.2.2.2.2.2.2.2.2.2.2.2.2.2.2.2.2.2, t)
theorem same_self {s : St} (h : Mild s) : ref17_Same (pr s s) = some true := by
  obtain ⟨tr', ar', sh', th', own', co', wa'⟩ := h
  obtain ⟨au, tr, ar, cv, ch, ce, ca, own, sh, tu, pv, ph, pe, pa, th, co, wa, ha⟩ := s
  dsimp only at *
  unfold pr ref17_Same
  dsimp only
  rw [refsameT _ (by omega), refsameR _ (by omega), refsameR _ (by omega), refsameR _ (by omega), ints_refl _ (by omega), rows_refl _ (by omega), puts_refl _ (by omega)]
  simp
theorem within_ok {m : Int} {l : List Int} (hl : l.length < 1000000000) : state_within (m, l) = some (l.all fun n => decide (0 ≤ n) && decide (n ≤ m)) := by
  unfold state_within slices_ContainsFunc_int_state_within_1 slices_IndexFunc_int_state_within_1
  dsimp only
  obtain ⟨r, h1, h2⟩ := loop_find (step := fun again1 s2 => if decide (s2 < (l.length : Int)) then ixL l s2 fun x3 => (state_within_1 (x3, m)).bind fun r4 => if r4 then some s2 else again1 (IntKind.wrap .i64 (s2 + 1)) else some (-1)) l.length hl (fun i => decide (0 ≤ l.getD i 0) && decide (l.getD i 0 ≤ m)) (fun again => by
    try dsimp only
    rw [if_neg (by simp)]) fun i hi again => by
    try dsimp only
    rw [if_pos (by simp; omega), ixL_nat hi, wrap_succ (by omega)]
    have e : l.getD i 0 = l[i] := by simp [List.getD, hi]
    rw [e]
    unfold state_within_1
    try dsimp only
    by_cases h1 : l[i] < 0
    · rw [if_pos (by simpa using h1), Option.bind_some, if_pos rfl, if_neg (by simp; omega)]
    · rw [if_neg (by simpa using h1), Option.bind_some]
      by_cases h2 : l[i] ≤ m
      · rw [if_neg (by simp; omega), if_pos (by simp; omega)]
      · rw [if_pos (by simp; omega), if_neg (by simp; omega)]
  rw [h1, Option.bind_some, Option.bind_some, h2]
  rw [range_all l (fun n => decide (0 ≤ n) && decide (n ≤ m)) _ (fun i hi => by simp [List.getD, hi])]
  simp
theorem rwithin_ok (n m : Int) : ref17_within (n, m) = some (decide (0 ≤ n) && decide (n ≤ m)) := by
  unfold ref17_within
  dsimp only
  by_cases h : 0 ≤ n
  · rw [if_pos (by simpa using h)]; simp [h]
  · rw [if_neg (by simp; omega)]; simp; omega
def sortB (c : List (List UInt8)) (i : Nat) : Bool := pathB (c.getD i []) && (decide (i = 0) || !(Op.bytesLess (c.getD i []) (c.getD (i - 1) []) || c.getD i [] == c.getD (i - 1) []))
theorem sorted_dec {c : List (List UInt8)} (hn : c.length < 1000000000) (hb : ∀ p ∈ c, p.length ≤ 1000000) : path_Sorted c = some ((List.range c.length).all (sortB c)) := by
  unfold path_Sorted
  rw [loop_test (fun i => i) c.length hn (sortB c) (some true) (some false) (fun again => by rw [if_neg (by simp)]) fun i hi again => by
    try dsimp only
    rw [if_pos (by simp; omega), ixL_nat hi, wrap_succ (by omega), right_ok (hb _ (List.getElem_mem hi)), Option.bind_some]
    have e : c.getD i [] = c[i] := by simp [List.getD, hi]
    unfold sortB
    rw [e]
    cases hp : pathB c[i]
    · rw [if_pos (by simp), if_neg (by simp)]
    · rw [if_neg (by simp)]
      by_cases h0 : i = 0
      · subst h0
        rw [if_neg (by simp), if_pos (by simp)]
      · rw [if_pos (by simp; omega)]
        obtain ⟨k, rfl⟩ : ∃ k, i = k + 1 := ⟨i - 1, by omega⟩
        have e2 : c.getD k [] = c[k] := by simp [List.getD, show k < c.length by omega]
        rw [pred64 (by omega) (by omega), ixL_nat (by omega)]
        simp only [Nat.add_sub_cancel]
        rw [e2]
        generalize (Op.bytesLess c[k + 1] c[k] || c[k + 1] == c[k]) = x
        cases x <;> simp]
  cases (List.range c.length).all (sortB c) <;> rfl
theorem refsorted_dec {c : List (List UInt8)} (hn : c.length < 1000000000) (hb : ∀ p ∈ c, p.length ≤ 1000000) : ref03_Sorted c = some ((List.range c.length).all (sortB c)) := by
  unfold ref03_Sorted
  rw [loop_test (fun i => i) c.length hn (sortB c) (some true) (some false) (fun again => by rw [if_neg (by simp)]) fun i hi again => by
    try dsimp only
    rw [if_pos (by simp; omega), ixL_nat hi, wrap_succ (by omega), refright_ok (hb _ (List.getElem_mem hi)), Option.bind_some]
    have e : c.getD i [] = c[i] := by simp [List.getD, hi]
    unfold sortB
    rw [e]
    cases hp : pathB c[i]
    · rw [if_pos (by simp), if_neg (by simp)]
    · rw [if_neg (by simp)]
      by_cases h0 : i = 0
      · subst h0
        rw [if_neg (by simp), if_pos (by simp)]
      · rw [if_pos (by simp; omega), ixL_nat hi]
        obtain ⟨k, rfl⟩ : ∃ k, i = k + 1 := ⟨i - 1, by omega⟩
        have e2 : c.getD k [] = c[k] := by simp [List.getD, show k < c.length by omega]
        rw [pred64 (by omega) (by omega), ixL_nat (by omega)]
        simp only [Nat.add_sub_cancel]
        rw [e2]
        generalize (Op.bytesLess c[k + 1] c[k] || c[k + 1] == c[k]) = x
        cases x <;> simp]
  cases (List.range c.length).all (sortB c) <;> rfl
theorem pred_len {n : Nat} (h : 0 < n) (hn : n < 1000000000) : IntKind.wrap .i64 ((n : Int) - 1) = ((n - 1 : Nat) : Int) := by
  rw [wi64 (by omega) (by omega)]; omega
def headB (own : List Int) : Int := if own.length = 0 then 0 else own.getD (own.length - 1) 0
def num32 (n : Int) : Bool := decide (0 ≤ n) && decide (n ≤ 4294967295)
def inB (m n : Int) : Bool := decide (0 ≤ n) && decide (n ≤ m)
theorem chained_ok {s : St} (h : s.2.2.2.2.2.2.2.1.length < 100000) : state_chained s = some (decide (s.2.2.2.2.2.2.2.1.length ≤ 200) && (s.2.2.2.2.2.2.2.1.all num32 && (inB 100 s.2.2.2.2.2.1 && ((s.2.2.2.1 == (s.2.2.2.2.2.2.2.1.length : Int)) && ((s.2.2.2.2.1 == headB s.2.2.2.2.2.2.2.1) && (s.2.2.2.2.2.2.1 == 0)))))) := by
  obtain ⟨au, tr, ar, cv, ch, ce, ca, own, sh, tu, pv, ph, pe, pa, th, co, wa, ha⟩ := s
  dsimp only at *
  unfold state_chained
  dsimp only
  rw [within_ok (by omega), within_ok (by simp)]
  have e1 : (own.all fun n => decide (0 ≤ n) && decide (n ≤ 4294967295)) = own.all num32 := rfl
  have e2 : ([ce].all fun n => decide (0 ≤ n) && decide (n ≤ 100)) = inB 100 ce := by simp [inB]
  rw [e1, e2]
  simp only [Option.bind_some]
  by_cases h0 : own.length = 0
  · rw [if_neg (by rw [decide_eq_true_eq]; omega)]
    have e3 : headB own = 0 := by rw [headB, if_pos h0]
    rw [e3]
    have e4 : decide ((own.length : Int) ≤ 200) = decide (own.length ≤ 200) := decide_eq_decide.2 (by omega)
    rw [e4]
    cases decide (own.length ≤ 200)
    · simp
    cases own.all num32
    · simp
    cases inB 100 ce
    · simp
    simp
  · rw [if_pos (by rw [decide_eq_true_eq]; omega), pred_len (by omega) (by omega), ixL_nat (by omega)]
    have e3 : headB own = own[own.length - 1] := by rw [headB, if_neg h0]; simp [List.getD, show own.length - 1 < own.length by omega]
    rw [e3]
    have e4 : decide ((own.length : Int) ≤ 200) = decide (own.length ≤ 200) := decide_eq_decide.2 (by omega)
    rw [e4]
    cases decide (own.length ≤ 200)
    · simp
    cases own.all num32
    · simp
    cases inB 100 ce
    · simp
    simp
theorem right_st {s : St} (h : Small s) {T A1 A2 A3 : Bool} (hT : tree_Right s.2.1 = some T) (h1 : scan_Right s.2.2.1 = some A1) (h2 : scan_Right s.2.2.2.2.2.2.2.2.1 = some A2) (h3 : scan_Right s.2.2.2.2.2.2.2.2.2.2.2.2.2.2.1 = some A3) :
    state_Right s = some (A1 && (A2 && (A3 && (s.2.2.2.2.2.2.2.2.2.2.2.2.2.2.2.2.1.all (fun p => num32 p.1 && decide (p.2.length ≤ 16)) && (inB 200 s.2.2.2.2.2.2.2.2.2.2.1 && ((num32 s.2.2.2.2.2.2.2.2.2.2.2.1 && num32 s.2.2.2.2.2.2.2.2.2.2.2.2.2.1) && (inB 1 s.1 && (T && ((decide (s.2.2.2.2.2.2.2.1.length ≤ 200) && (s.2.2.2.2.2.2.2.1.all num32 && (inB 100 s.2.2.2.2.2.1 && ((s.2.2.2.1 == (s.2.2.2.2.2.2.2.1.length : Int)) && ((s.2.2.2.2.1 == headB s.2.2.2.2.2.2.2.1) && (s.2.2.2.2.2.2.1 == 0)))))) && (inB 100 s.2.2.2.2.2.2.2.2.2.2.2.2.1 && ((List.range s.2.2.2.2.2.2.2.2.2.2.2.2.2.2.2.1.length).all (sortB s.2.2.2.2.2.2.2.2.2.2.2.2.2.2.2.1) && (decide (s.2.2.2.2.2.2.2.2.2.2.2.2.2.2.2.1.length ≤ 32) && decide (s.2.2.2.2.2.2.2.2.2.2.2.2.2.2.2.2.1.length ≤ 200))))))))))))) := by
  have hch := chained_ok (s := s) (by have := h.own; omega)
  obtain ⟨tr', ar', sh', th', own', co', wa'⟩ := h
  obtain ⟨au, tr, ar, cv, ch, ce, ca, own, sh, tu, pv, ph, pe, pa, th, co, wa, ha⟩ := s
  dsimp only at *
  generalize hC : (decide (own.length ≤ 200) && (own.all num32 && (inB 100 ce && ((cv == (own.length : Int)) && ((ch == headB own) && (ca == 0)))))) = CH at hch ⊢
  unfold state_Right
  dsimp only
  rw [h1, h2, h3]
  simp only [Option.bind_some]
  rw [loop_test (fun i => (au, tr, ar, cv, ch, ce, ca, own, sh, tu, pv, ph, pe, pa, th, co, wa, ha, i)) wa.length (by omega) (fun i => num32 (wa.getD i (0, [])).1 && decide ((wa.getD i (0, [])).2.length ≤ 16))
    (some (inB 200 pv && ((num32 ph && num32 pa) && (inB 1 au && (T && (CH && (inB 100 pe && ((List.range co.length).all (sortB co) && (decide (co.length ≤ 32) && decide (wa.length ≤ 200)))))))))) (some false) (fun again => by
      dsimp only
      rw [if_neg (by simp)]
      rw [within_ok (by simp), within_ok (by simp), within_ok (by simp), within_ok (by simp), hT, hch, sorted_dec (by omega) (fun p hp => by have := co'.2 p hp; omega)]
      have e1 : ([pv].all fun n => decide (0 ≤ n) && decide (n ≤ 200)) = inB 200 pv := by simp [inB]
      have e2 : ([ph, pa].all fun n => decide (0 ≤ n) && decide (n ≤ 4294967295)) = (num32 ph && num32 pa) := by simp [num32]
      have e3 : ([pe].all fun n => decide (0 ≤ n) && decide (n ≤ 100)) = inB 100 pe := by simp [inB]
      have e4 : ([au].all fun n => decide (0 ≤ n) && decide (n ≤ 1)) = inB 1 au := by simp [inB]
      have e5 : decide ((co.length : Int) ≤ 32) = decide (co.length ≤ 32) := decide_eq_decide.2 (by omega)
      have e6 : decide ((wa.length : Int) ≤ 200) = decide (wa.length ≤ 200) := decide_eq_decide.2 (by omega)
      rw [e1, e2, e3, e4, e5, e6]
      simp only [Option.bind_some]
      cases inB 200 pv
      · cases inB 1 au <;> cases T <;> cases CH <;> simp
      cases (num32 ph && num32 pa)
      · cases inB 1 au <;> cases T <;> cases CH <;> simp
      cases inB 1 au
      · simp
      cases T
      · simp
      cases CH
      · simp
      cases inB 100 pe
      · simp
      cases (List.range co.length).all (sortB co)
      · simp
      cases decide (co.length ≤ 32)
      · simp
      · simp) fun i hi again => by
      dsimp only
      rw [if_pos (by simp; omega), ixL_nat hi, wrap_succ (by omega), within_ok (by simp)]
      have e : wa.getD i (0, []) = wa[i] := by simp [List.getD, hi]
      have e1 : ([wa[i].1].all fun n => decide (0 ≤ n) && decide (n ≤ 4294967295)) = num32 wa[i].1 := by simp [num32]
      rw [e, e1, Option.bind_some]
      cases num32 wa[i].1
      · simp
      by_cases hx : wa[i].2.length ≤ 16
      · rw [if_neg (by simp), if_neg (by simp; omega), if_pos (by simp [hx])]
      · rw [if_neg (by simp), if_pos (by simp; omega), if_neg (by simp; omega)]]
  rw [range_all wa (fun p => num32 p.1 && decide (p.2.length ≤ 16)) _ (fun i hi => by simp [List.getD, hi])]
  cases A1
  · simp
  cases A2
  · simp
  cases A3
  · simp
  cases wa.all (fun p => num32 p.1 && decide (p.2.length ≤ 16))
  · simp
  · simp
end Go.Proofs.W.Q17
namespace Go.Proofs.W.Q17
open Go Go.Proofs.V Go.Proofs.W.Q9 Go.Proofs.W.Q10
set_option linter.unusedVariables false
set_option linter.unusedSimpArgs false
set_option maxRecDepth 100000
def headAt (own : List Int) (i : Int) : Int := if i = 0 then 0 else own.getD (i.toNat - 1) 0
theorem loop_testS {S R : Type} {step : (S → Option R) → S → Option R} (s0 : S) (g : Int → S) (h0 : s0 = g 0) (n : Nat) (hn : n < 1000000000) (ok : Nat → Bool) (r b : Option R) (hlast : ∀ again, step again (g (n : Int)) = r)
    (hstep : ∀ i, i < n → ∀ again, step again (g (i : Int)) = if ok i then again (g ((i + 1 : Nat) : Int)) else b) : fixS step fuel s0 = if (List.range n).all ok then r else b := by
  rw [h0]; exact loop_test g n hn ok r b hlast hstep
theorem right_ref {s : St} (h : Small s) {T A1 A2 A3 : Bool} (hT : ref04_Right s.2.1 = some T) (h1 : ref09_Right s.2.2.1 = some A1) (h2 : ref09_Right s.2.2.2.2.2.2.2.2.1 = some A2) (h3 : ref09_Right s.2.2.2.2.2.2.2.2.2.2.2.2.2.2.1 = some A3) :
    ref17_Right s = some (A1 && (A2 && (A3 && (s.2.2.2.2.2.2.2.2.2.2.2.2.2.2.2.2.1.all (fun p => num32 p.1 && decide (p.2.length ≤ 16)) && (inB 200 s.2.2.2.2.2.2.2.2.2.2.1 && ((num32 s.2.2.2.2.2.2.2.2.2.2.2.1 && num32 s.2.2.2.2.2.2.2.2.2.2.2.2.2.1) && (inB 1 s.1 && (T && ((decide (s.2.2.2.2.2.2.2.1.length ≤ 200) && (s.2.2.2.2.2.2.2.1.all num32 && (inB 100 s.2.2.2.2.2.1 && ((s.2.2.2.1 == (s.2.2.2.2.2.2.2.1.length : Int)) && ((s.2.2.2.2.1 == headB s.2.2.2.2.2.2.2.1) && (s.2.2.2.2.2.2.1 == 0)))))) && (inB 100 s.2.2.2.2.2.2.2.2.2.2.2.2.1 && ((List.range s.2.2.2.2.2.2.2.2.2.2.2.2.2.2.2.1.length).all (sortB s.2.2.2.2.2.2.2.2.2.2.2.2.2.2.2.1) && (decide (s.2.2.2.2.2.2.2.2.2.2.2.2.2.2.2.1.length ≤ 32) && decide (s.2.2.2.2.2.2.2.2.2.2.2.2.2.2.2.2.1.length ≤ 200))))))))))))) := by
  obtain ⟨tr', ar', sh', th', own', co', wa'⟩ := h
  obtain ⟨au, tr, ar, cv, ch, ce, ca, own, sh, tu, pv, ph, pe, pa, th, co, wa, ha⟩ := s
  dsimp only at *
  unfold ref17_Right
  dsimp only
  rw [hT, h1, h2, h3, refsorted_dec (by omega) (fun p hp => by have := co'.2 p hp; omega)]
  simp only [rwithin_ok, Option.bind_some]
  have e5 : decide ((co.length : Int) > 32) = !decide (co.length ≤ 32) := by
    by_cases hx : co.length ≤ 32 <;> simp [hx] <;> omega
  have e6 : decide ((wa.length : Int) > 200) = !decide (wa.length ≤ 200) := by
    by_cases hx : wa.length ≤ 200 <;> simp [hx] <;> omega
  have e7 : decide ((own.length : Int) > 200) = !decide (own.length ≤ 200) := by
    by_cases hx : own.length ≤ 200 <;> simp [hx] <;> omega
  rw [e5, e6, e7]
  have w1 : ∀ n : Int, (decide (0 ≤ n) && decide (n ≤ 4294967295)) = num32 n := fun n => rfl
  have w2 : ∀ m n : Int, (decide (0 ≤ n) && decide (n ≤ m)) = inB m n := fun m n => rfl
  rw [loop_testS (au, tr, ar, cv, ch, ce, ca, own, sh, tu, pv, ph, pe, pa, th, co, wa, ha, 0, 0) (fun i => (au, tr, ar, cv, ch, ce, ca, own, sh, tu, pv, ph, pe, pa, th, co, wa, ha, headAt own i, i)) rfl own.length (by omega) (fun i => num32 (own.getD i 0))
    (some ((cv == (own.length : Int)) && ((ch == headB own) && (inB 100 ce && ((ca == 0) && (inB 200 pv && (num32 ph && (inB 100 pe && (num32 pa && wa.all (fun p => num32 p.1 && decide (p.2.length ≤ 16)))))))))))
    (some false) (fun again => by
      dsimp only
      rw [if_neg (by simp)]
      have hh : headAt own (own.length : Int) = headB own := by
        unfold headAt headB
        by_cases h0 : own.length = 0
        · rw [if_pos (by omega), if_pos h0]
        · rw [if_neg (by omega), if_neg h0, Int.toNat_natCast]
      rw [hh]
      rw [loop_test (fun i => (au, tr, ar, cv, ch, ce, ca, own, sh, tu, pv, ph, pe, pa, th, co, wa, ha, i)) wa.length (by omega) (fun i => num32 (wa.getD i (0, [])).1 && decide ((wa.getD i (0, [])).2.length ≤ 16)) (some true) (some false) (fun again => by
        dsimp only
        rw [if_neg (by simp)]) fun i hi again => by
        dsimp only
        rw [if_pos (by simp; omega), ixL_nat hi, wrap_succ (by omega), ixL_nat hi]
        have e : wa.getD i (0, []) = wa[i] := by simp [List.getD, hi]
        rw [e, w1]
        cases num32 wa[i].1
        · simp
        by_cases hx : wa[i].2.length ≤ 16
        · rw [if_neg (by simp), if_neg (by simp; omega), if_pos (by simp [hx])]
        · rw [if_neg (by simp), if_pos (by simp; omega), if_neg (by simp; omega)]]
      rw [range_all wa (fun p => num32 p.1 && decide (p.2.length ≤ 16)) _ (fun i hi => by simp [List.getD, hi])]
      rw [w1, w1, w2, w2, w2]
      have n1 : (cv != (own.length : Int)) = !(cv == (own.length : Int)) := rfl
      have n2 : (ch != headB own) = !(ch == headB own) := rfl
      have n3 : (ca != 0) = !(ca == 0) := rfl
      rw [n1, n2, n3]
      cases (cv == (own.length : Int))
      · simp
      cases (ch == headB own)
      · simp
      cases inB 100 ce
      · simp
      cases (ca == 0)
      · simp
      cases inB 200 pv
      · simp
      cases num32 ph
      · simp
      cases inB 100 pe
      · simp
      cases num32 pa
      · simp
      cases wa.all (fun p => num32 p.1 && decide (p.2.length ≤ 16))
      · simp
      · simp) fun i hi again => by
      dsimp only
      rw [if_pos (by simp; omega), ixL_nat hi, wrap_succ (by omega)]
      have e : own.getD i 0 = own[i] := by simp [List.getD, hi]
      have e1 : headAt own ((i + 1 : Nat) : Int) = own[i] := by
        unfold headAt
        rw [if_neg (by omega), Int.toNat_natCast, Nat.add_sub_cancel, e]
      rw [e, w1, e1]
      cases num32 own[i] <;> simp]
  rw [range_all own num32 _ (fun i hi => by simp [List.getD, hi]), w2]
  generalize (List.range co.length).all (sortB co) = C
  generalize decide (co.length ≤ 32) = L1
  generalize decide (wa.length ≤ 200) = L2
  generalize decide (own.length ≤ 200) = L3
  generalize wa.all (fun p => num32 p.1 && decide (p.2.length ≤ 16)) = W
  generalize (cv == (own.length : Int)) = V
  generalize (ch == headB own) = HD
  generalize inB 100 ce = E
  generalize (ca == 0) = K
  generalize inB 200 pv = P1
  generalize num32 ph = P2
  generalize inB 100 pe = P3
  generalize num32 pa = P4
  generalize inB 1 au = AU
  generalize own.all num32 = O
  cases AU
  · simp
  cases T
  · simp
  cases A1
  · simp
  cases A2
  · simp
  cases A3
  · simp
  cases C
  · simp
  cases L1
  · simp
  cases L2
  · simp
  cases L3
  · simp
  cases O
  · simp
  simp
  cases V <;> simp
  cases HD <;> simp
  cases E <;> simp
  cases K <;> simp
  cases P1 <;> simp
  cases P2 <;> simp
  cases P3 <;> simp
  cases P4 <;> simp
theorem right17 {s : St} (h : Small s) : ∃ r, state_Right s = some r ∧ ref17_Right s = some r := by
  have hF : ∀ e ∈ s.2.1, e.1.length ≤ 1000000 := fun e he => by
    have : e.1.length ≤ 100 ∧ e.2.length ≤ 1000 := by simpa [okFi] using h.tr.2 e he
    omega
  have arch : ∀ a : List En, (a.length ≤ 60 ∧ ∀ e ∈ a, okEn e = true) → ∃ b, scan_Right a = some b ∧ ref09_Right a = some b := fun a ⟨h1, h2⟩ => by
    have hg : (decide (a.length ≤ 60) && a.all okEn) = true := by simp only [Bool.and_eq_true, decide_eq_true_eq, List.all_eq_true]; exact ⟨h1, h2⟩
    have ml := (few_small hg).mid
    obtain ⟨b, hb⟩ := ml.ends
    exact ⟨b, hb, by rw [refarch_ok ml.p (by omega), hb]⟩
  obtain ⟨A1, p1, q1⟩ := arch _ h.ar
  obtain ⟨A2, p2, q2⟩ := arch _ h.sh
  obtain ⟨A3, p3, q3⟩ := arch _ h.th
  have hT := tree_dec hF
  exact ⟨_, right_st h hT p1 p2 p3, right_ref h (by rw [reftree_ok hF, hT]) q1 q2 q3⟩
end Go.Proofs.W.Q17
