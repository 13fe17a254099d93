/- ReconTurned, ReconThree: plain laws. -/
import Derived.Test.YtdgihbbekacgcaaGreatDoorK27
import Derived.Test.YtdgihbbekacgcaaGreatDoorK28
import Derived.Test.YtdgihbbekacgcaaGreatDoorK20
namespace Go.Proofs.W.Q10
open Go Go.Proofs.V Go.Proofs.W.Q9
set_option linter.unusedVariables false
set_option linter.unusedSimpArgs false
end Go.Proofs.W.Q10
namespace Go.Proofs.W.Q10
open Go Go.Proofs.V Go.Proofs.W.Q9
set_option linter.unusedVariables false
set_option linter.unusedSimpArgs false
section
variable {a b : List En} {p : List UInt8} {take : Bool} {n : Int} {k1 k2 : Nat}
end
end Go.Proofs.W.Q10
namespace Go.Proofs.W.Q10
open Go Go.Proofs.V Go.Proofs.W.Q9
set_option linter.unusedVariables false
set_option linter.unusedSimpArgs false
abbrev AscF (t : List Fi) : Prop := Asc (fun f : Fi => f.1) t
end Go.Proofs.W.Q10
namespace Go.Proofs.W.Q10
open Go Go.Proofs.V Go.Proofs.W.Q9
set_option linter.unusedVariables false
set_option linter.unusedSimpArgs false
theorem all_loopK {α : Type} {l : List α} {p : α → Bool} {step : (Int → Option Bool) → Int → Option Bool} (K : Option Bool) (hl : l.length < 1000000000) (hlast : ∀ again, step again (l.length : Int) = K) (hstep : ∀ i, (hi : i < l.length) → ∀ again, step again (i : Int) = if p l[i] = true then again ((i + 1 : Nat) : Int) else some false) : fixS step fuel 0 = if l.all p = true then K else some false := by
  refine loop_run l.length (fun i s => s = (i : Int) ∧ (l.take i).all p = true) _ (by omega) (fun again s hI => ?_) (fun i hi again s hI ha => ?_) ⟨rfl, rfl⟩
  · obtain ⟨rfl, h⟩ := hI
    rw [List.take_length] at h
    rw [hlast, if_pos h]
  · obtain ⟨rfl, h⟩ := hI
    rw [hstep i hi]
    cases hp : p l[i] with
    | true => 
      rw [if_pos rfl]
      exact ha _ ⟨rfl, by rw [all_take hi, h, hp]; rfl⟩
    | false =>
      rw [if_neg (by simp), if_neg]
      rw [List.all_eq_true]
      intro hall
      rw [hall _ (List.getElem_mem hi)] at hp
      cases hp
theorem less_append : ∀ (q : List UInt8) (c : UInt8) (r : List UInt8), Op.bytesLess q (q ++ c :: r) = true
  | [], c, r => rfl
  | x :: q, c, r => by
    rw [List.cons_append]
    unfold Op.bytesLess
    rw [less_append q c r]
    simp
theorem under_less {p q : List UInt8} (h : underB p q = true) : Op.bytesLess q p = true := by
  unfold underB at h
  cases hu : path_Under (p, q) with
  | none => rw [hu] at h; cases h
  | some r =>
    rw [hu] at h
    have h : r = true := h
    subst h
    unfold path_Under at hu
    dsimp only at hu
    obtain ⟨r1, _, hu⟩ := bind_true hu
    split at hu
    case isFalse => cases hu
    obtain ⟨r2, _, hu⟩ := bind_true hu
    split at hu
    case isFalse => cases hu
    split at hu
    case isFalse => cases hu
    split at hu
    case isFalse => cases hu
    obtain ⟨r3, hu, h3⟩ := bind_true hu
    cases h3
    unfold strings_HasPrefix stringslite_HasPrefix at hu
    dsimp only at hu
    obtain ⟨r4, hu, h4⟩ := bind_true hu
    cases h4
    split at hu
    case isFalse => cases hu
    unfold cutL at hu
    split at hu
    case isFalse => cases hu
    rename_i hle
    simp only [Int.toNat_natCast, Option.some.injEq, beq_iff_eq] at hu
    have e : p = (q ++ [47]) ++ p.drop (q ++ [47]).length := by
      have h1 := List.take_append_drop (q ++ [47]).length p
      have hu2 : p.take (q ++ [47]).length = q ++ [47] := by simpa using hu
      rw [hu2] at h1
      exact h1.symm
    rw [e, List.append_assoc]
    exact less_append q 47 _
noncomputable def okAt (t : List Fi) (i : Nat) : Bool :=
  if h : i < t.length then pathB t[i].1 && (decide (t[i].2.length ≤ 600) && ((decide (i = 0) || !(Op.bytesLess t[i].1 (t[i-1]'(by omega)).1 || t[i].1 == (t[i-1]'(by omega)).1)) && (t.take i).all fun g => !underB t[i].1 g.1)) else true
theorem treeX_iff {t : List Fi} (hb : ∀ g ∈ t, g.1.length ≤ 1000000) : (decide (t.length ≤ 16) && (List.range t.length).all (okAt t)) = true ↔ TreeX t := by
  have hat : ∀ i, (h : i < t.length) → okAt t i = (pathB t[i].1 && (decide (t[i].2.length ≤ 600) && ((decide (i = 0) || !(Op.bytesLess t[i].1 (t[i-1]'(by omega)).1 || t[i].1 == (t[i-1]'(by omega)).1)) && (t.take i).all fun g => !underB t[i].1 g.1))) := fun i h => by unfold okAt; rw [dif_pos h]
  rw [Bool.and_eq_true, decide_eq_true_eq, List.all_eq_true]
  constructor
  · rintro ⟨hl, hall⟩
    have key : ∀ i, (h : i < t.length) → pathB t[i].1 = true ∧ t[i].2.length ≤ 600 ∧ (i = 0 ∨ (Op.bytesLess t[i].1 (t[i-1]'(by omega)).1 || t[i].1 == (t[i-1]'(by omega)).1) = false) ∧ ∀ g ∈ t.take i, underB t[i].1 g.1 = false := by
      intro i h
      have h1 := hall i (List.mem_range.2 h)
      rw [hat i h] at h1
      simp only [Bool.and_eq_true, decide_eq_true_eq, Bool.or_eq_true, List.all_eq_true, Bool.not_eq_true'] at h1
      exact ⟨h1.1, h1.2.1, h1.2.2.1, h1.2.2.2⟩
    have hup : ∀ i, (h : i + 1 < t.length) → rgt t[i+1].1 t[i].1 := fun i h => by
      have h1 := (key (i + 1) h).2.2.1
      rcases h1 with h1 | h1
      · omega
      · exact h1
    have hasc : AscF t := asc_of _ t hup
    refine ⟨hl, fun f hf => ?_, fun f hf => ?_, hup, fun f hf g hg => ?_⟩
    · obtain ⟨i, hi, rfl⟩ := List.getElem_of_mem hf
      rw [right_ok (hb _ hf), (key i hi).1]
    · obtain ⟨i, hi, rfl⟩ := List.getElem_of_mem hf
      exact (key i hi).2.1
    · obtain ⟨i, hi, rfl⟩ := List.getElem_of_mem hf
      obtain ⟨j, hj, rfl⟩ := List.getElem_of_mem hg
      by_cases h : j < i
      · exact (key i hi).2.2.2 _ (by rw [List.mem_take_iff_getElem]; exact ⟨j, by omega, rfl⟩)
      · cases hu : underB t[i].1 t[j].1 with
        | false => rfl
        | true =>
          have h1 := under_less hu
          rcases Nat.lt_or_ge i j with h2 | h2
          · have h3 : Les t[i].1 t[j].1 := List.pairwise_iff_getElem.1 hasc i j hi hj h2
            have := Q9.less_trans h1 h3
            rw [less_irrefl] at this
            cases this
          · have : i = j := by omega
            subst this
            rw [less_irrefl] at h1
            cases h1
  · intro h
    refine ⟨h.len, fun i hi => ?_⟩
    have hi := List.mem_range.1 hi
    have hp := h.path _ (List.getElem_mem hi)
    rw [right_ok (hb _ (List.getElem_mem hi))] at hp
    rw [hat i hi]
    simp only [Bool.and_eq_true, decide_eq_true_eq, Bool.or_eq_true, List.all_eq_true, Bool.not_eq_true']
    refine ⟨Option.some.inj hp, h.data _ (List.getElem_mem hi), ?_, fun g hg => h.no _ (List.getElem_mem hi) g (List.mem_of_mem_take hg)⟩
    by_cases h0 : i = 0
    · exact .inl h0
    · right
      have h1 := h.up (i - 1) (by omega)
      have e : i - 1 + 1 = i := by omega
      simp only [e] at h1
      exact h1
theorem tree_dec {t : List Fi} (hb : ∀ g ∈ t, g.1.length ≤ 1000000) : tree_Right t = some (decide (t.length ≤ 16) && (List.range t.length).all (okAt t)) := by
  obtain ⟨r, hr⟩ := treeRight_ends t hb
  rw [hr]
  congr 1
  cases r with
  | true => exact ((treeX_iff hb).2 (treeX_fwd hb hr)).symm
  | false =>
    cases h : (decide (t.length ≤ 16) && (List.range t.length).all (okAt t)) with
    | false => rfl
    | true =>
      rw [treeX_back hb ((treeX_iff hb).1 h)] at hr
      cases hr
theorem reftree_ok {t : List Fi} (hb : ∀ g ∈ t, g.1.length ≤ 1000000) : ref04_Right t = tree_Right t := by
  rw [tree_dec hb]
  unfold ref04_Right
  by_cases hl : t.length ≤ 16
  · rw [if_neg (by simp; omega), decide_eq_true hl, Bool.true_and]
    refine (all_loop (l := List.range t.length) (p := okAt t) true (by simp; omega) (fun again => by rw [if_neg (by simp)]) (fun i hi again => ?_)).trans (by rw [Bool.and_true])
    have hi' : i < t.length := by simpa using hi
    rw [List.getElem_range]
    have hbi := hb _ (List.getElem_mem hi')
    have inner : fixS (S := Int) (R := Bool) (fun again8 s9 => if decide (s9 < (i : Int)) = true then ixL t (i : Int) fun x10 => ixL t s9 fun x11 => (ref03_Under (x10.1, x11.1)).bind fun r12 => if r12 = true then some false else again8 (IntKind.wrap .i64 (s9 + 1)) else again (IntKind.wrap .i64 ((i : Int) + 1))) fuel 0 = if (t.take i).all (fun g => !underB t[i].1 g.1) = true then again ((i + 1 : Nat) : Int) else some false := by
      refine all_loopK (l := t.take i) (p := fun g => !underB t[i].1 g.1) _ (by simp; omega) (fun again' => ?_) (fun j hj again' => ?_)
      · have e : ((t.take i).length : Int) = (i : Int) := by rw [List.length_take]; omega
        rw [e, if_neg (by simp), wrap_succ (by omega)]
      · rw [List.length_take] at hj
        rw [if_pos (by simp; omega), ixL_nat hi', ixL_nat (by omega), wrap_succ (by omega)]
        have hbj := hb _ (List.getElem_mem (show j < t.length by omega))
        rw [refunder_ok hbi hbj, under_ok hbi hbj, Option.bind_some, List.getElem_take]
        cases underB t[i].1 t[j].1 <;> rfl
    have hat : okAt t i = (pathB t[i].1 && (decide (t[i].2.length ≤ 600) && ((decide (i = 0) || !(Op.bytesLess t[i].1 (t[i-1]'(by omega)).1 || t[i].1 == (t[i-1]'(by omega)).1)) && (t.take i).all fun g => !underB t[i].1 g.1))) := by unfold okAt; rw [dif_pos hi']
    rw [if_pos (by simp; omega), ixL_nat hi', refright_ok hbi, Option.bind_some, hat]
    cases h1 : pathB t[i].1 with
    | false => rfl
    | true =>
      rw [if_neg (by simp), ixL_nat hi', Bool.true_and]
      by_cases h2 : t[i].2.length ≤ 600
      · rw [if_neg (by simp; omega), decide_eq_true h2, Bool.true_and]
        by_cases h0 : 0 < i
        · rw [if_pos (by simp; omega), ixL_nat hi', pred64 h0 (by omega), ixL_nat (by omega), decide_eq_false (by omega : ¬ i = 0), Bool.false_or]
          by_cases h3 : (Op.bytesLess t[i].1 t[i-1].1 || t[i].1 == t[i-1].1) = true
          · rw [if_pos h3, h3]; rfl
          · rw [if_neg h3, inner]
            have h3 : (Op.bytesLess t[i].1 t[i-1].1 || t[i].1 == t[i-1].1) = false := by simpa using h3
            rw [h3]; rfl
        · rw [if_neg (by simp; omega), inner, decide_eq_true (by omega : i = 0)]
          rfl
      · rw [if_pos (by simp; omega), decide_eq_false h2]
        rfl
  · rw [if_pos (by simp; omega), decide_eq_false hl]
    rfl
end Go.Proofs.W.Q10
namespace Go.Proofs.W.Q10
open Go Go.Proofs.V Go.Proofs.W.Q9
set_option linter.unusedVariables false
set_option linter.unusedSimpArgs false
theorem ref02right_ok (c : Int × Int) : ref02_Right (c.1, c.2) = clock_Right (c.1, c.2) := by
  obtain ⟨r, hr⟩ := clockRight_ends (c.1, c.2)
  have hi := clockRight_iff (c.1, c.2)
  rw [hr] at hi ⊢
  have e : ref02_Right (c.1, c.2) = some true ↔ ClOk (c.1, c.2) := by
    unfold ref02_Right
    dsimp only
    constructor
    · intro h
      split at h
      case isFalse => cases h
      split at h
      case isFalse => cases h
      split at h
      case isFalse => cases h
      simp only [decide_eq_true_eq, Option.some.injEq, ge_iff_le] at *
      constructor <;> assumption
    · rintro ⟨h1, h2, h3, h4⟩
      dsimp only at h1 h2 h3 h4
      rw [if_pos (by simpa using h1), if_pos (by simpa using h2), if_pos (by simpa using h3), decide_eq_true h4]
  have t : ∃ b, ref02_Right (c.1, c.2) = some b := by
    unfold ref02_Right
    repeat' split
    all_goals exact ⟨_, rfl⟩
  obtain ⟨b, hb⟩ := t
  rw [hb] at e ⊢
  cases b with
  | true =>
    have := hi.2 (e.1 rfl)
    rw [this]
  | false =>
    cases r with
    | false => rfl
    | true => have := e.2 (hi.1 rfl); cases this
theorem reffiles_ok (a : List En) (hl : a.length < 300000000000) : ref09_files a = some (filesP a) := by
  unfold ref09_files
  refine loop_run a.length (fun i s => s = (filesP (a.take i), (i : Int))) _ (by omega) (fun again s hI => ?_) (fun i hi again s hI ha => ?_) rfl
  · subst hI
    dsimp only
    rw [if_neg (by simp), List.take_length]
  · subst hI
    dsimp only
    have ht : a.take (i + 1) = a.take i ++ [a[i]] := (List.take_append_getElem hi).symm
    rw [if_pos (by simp; omega), ixL_nat hi, wrap_succ (by omega)]
    have hlen : (filesP (a.take i)).length ≤ i := by
      have := filesP_len (a.take i)
      rw [List.length_take] at this
      omega
    split
    · rename_i hf
      rw [ixL_nat hi, ixL_nat hi, if_pos (fits32 (by simp; omega))]
      refine ha _ ?_
      rw [ht, filesP_snoc, if_pos hf]
    · rename_i hf
      refine ha _ ?_
      rw [ht, filesP_snoc, if_neg hf, List.append_nil]
noncomputable def okEAt (a : List En) (i : Nat) : Bool :=
  if h : i < a.length then pathB a[i].1 && (((clock_Right (a[i].2.2.2.1, a[i].2.2.2.2)).getD false) && (!((a[i].2.2.2.1 == 0) && (a[i].2.2.2.2 == 0)) && ((a[i].2.1 || (a[i].2.2.1 == [])) && (decide (i = 0) || !(Op.bytesLess a[i].1 (a[i-1]'(by omega)).1 || a[i].1 == (a[i-1]'(by omega)).1))))) else true
theorem refarch_ok {a : List En} (hb : ∀ e ∈ a, e.1.length ≤ 1000000) (hl : a.length < 1000000000) : ref09_Right a = scan_Right a := by
  have hfb := files_paths hb
  -- the program's, as a boolean
  have hS : scan_Right a = some ((List.range a.length).all (okEAt a) && (decide (a.length ≤ 32) && (tree_Right (filesP a)).getD false)) := by
    rw [right_step]
    refine all_loop (l := List.range a.length) (p := okEAt a) _ (by simp; omega) (fun again => ?_) (fun i hi again => ?_)
    · unfold rstep
      rw [if_neg (by simp)]
      by_cases h32 : a.length ≤ 32
      · rw [if_pos (by simp; omega), files_ok a (by omega), Option.bind_some, decide_eq_true h32]
        obtain ⟨r, hr⟩ := treeRight_ends _ hfb
        rw [hr]; rfl
      · rw [if_neg (by simp; omega), decide_eq_false h32]
        rfl
    · have hi' : i < a.length := by simpa using hi
      rw [List.getElem_range]
      have hat : okEAt a i = (pathB a[i].1 && (((clock_Right (a[i].2.2.2.1, a[i].2.2.2.2)).getD false) && (!((a[i].2.2.2.1 == 0) && (a[i].2.2.2.2 == 0)) && ((a[i].2.1 || (a[i].2.2.1 == [])) && (decide (i = 0) || !(Op.bytesLess a[i].1 (a[i-1]'(by omega)).1 || a[i].1 == (a[i-1]'(by omega)).1)))))) := by unfold okEAt; rw [dif_pos hi']
      obtain ⟨rc, hrc⟩ := clockRight_ends (a[i].2.2.2.1, a[i].2.2.2.2)
      rw [hrc] at hat
      unfold rstep
      rw [if_pos (by simp; omega), ixL_nat hi', right_ok (hb _ (List.getElem_mem hi')), Option.bind_some, wrap_succ (by omega), hat]
      cases pathB a[i].1 with
      | false => rfl
      | true =>
        rw [if_neg (by simp)]
        have tail : ((clock_Right (a[i].2.2.2.1, a[i].2.2.2.2)).bind fun r6 => if (!r6) = true then some false else if ((a[i].2.2.2.1 == 0) && (a[i].2.2.2.2 == 0)) = true then some false else if (!a[i].2.1) = true then (if (!(a[i].2.2.1 == [])) = true then some false else again ((i + 1 : Nat) : Int)) else again ((i + 1 : Nat) : Int)) = if (rc && (!((a[i].2.2.2.1 == 0) && (a[i].2.2.2.2 == 0)) && (a[i].2.1 || (a[i].2.2.1 == [])))) = true then again ((i + 1 : Nat) : Int) else some false := by
          rw [hrc, Option.bind_some]
          cases rc with
          | false => rfl
          | true =>
            rw [if_neg (by simp)]
            cases ((a[i].2.2.2.1 == 0) && (a[i].2.2.2.2 == 0)) with
            | true => rfl
            | false =>
              rw [if_neg (by simp)]
              cases a[i].2.1 with
              | true => rfl
              | false =>
                rw [if_pos (by rfl)]
                cases (a[i].2.2.1 == []) <;> rfl
        by_cases h0 : 0 < i
        · rw [if_pos (by simp; omega), pred64 h0 (by omega), ixL_nat (by omega)]
          by_cases h3 : (Op.bytesLess a[i].1 a[i-1].1 || a[i].1 == a[i-1].1) = true
          · rw [if_pos h3, h3]
            rw [decide_eq_false (by omega : ¬ i = 0)]
            simp
          · rw [if_neg h3]
            have h3 : (Op.bytesLess a[i].1 a[i-1].1 || a[i].1 == a[i-1].1) = false := by simpa using h3
            refine tail.trans ?_
            rw [h3]
            simp
        · rw [if_neg (by simp; omega)]
          refine tail.trans ?_
          rw [decide_eq_true (by omega : i = 0)]
          simp
  rw [hS]
  unfold ref09_Right
  by_cases h32 : a.length ≤ 32
  · rw [if_neg (by simp; omega), decide_eq_true h32, Bool.true_and]
    refine all_loop (l := List.range a.length) (p := okEAt a) _ (by simp; omega) (fun again => ?_) (fun i hi again => ?_)
    · rw [if_neg (by simp), reffiles_ok a (by omega), Option.bind_some, reftree_ok hfb]
      obtain ⟨r, hr⟩ := treeRight_ends _ hfb
      rw [hr]; rfl
    · have hi' : i < a.length := by simpa using hi
      rw [List.getElem_range]
      have hat : okEAt a i = (pathB a[i].1 && (((clock_Right (a[i].2.2.2.1, a[i].2.2.2.2)).getD false) && (!((a[i].2.2.2.1 == 0) && (a[i].2.2.2.2 == 0)) && ((a[i].2.1 || (a[i].2.2.1 == [])) && (decide (i = 0) || !(Op.bytesLess a[i].1 (a[i-1]'(by omega)).1 || a[i].1 == (a[i-1]'(by omega)).1)))))) := by unfold okEAt; rw [dif_pos hi']
      obtain ⟨rc, hrc⟩ := clockRight_ends (a[i].2.2.2.1, a[i].2.2.2.2)
      rw [hrc] at hat
      rw [if_pos (by simp; omega), ixL_nat hi', refright_ok (hb _ (List.getElem_mem hi')), Option.bind_some, ref02right_ok (a[i].2.2.2), hrc, Option.bind_some, wrap_succ (by omega), hat]
      have last : (if decide ((i : Int) > 0) = true then ixL a (IntKind.wrap .i64 ((i : Int) - 1)) fun x6 => if (Op.bytesLess a[i].1 x6.1 || a[i].1 == x6.1) = true then some false else again ((i + 1 : Nat) : Int) else again ((i + 1 : Nat) : Int)) = if (decide (i = 0) || !(Op.bytesLess a[i].1 (a[i-1]'(by omega)).1 || a[i].1 == (a[i-1]'(by omega)).1)) = true then again ((i + 1 : Nat) : Int) else some false := by
        by_cases h0 : 0 < i
        · rw [if_pos (by simp; omega), pred64 h0 (by omega), ixL_nat (by omega), decide_eq_false (by omega : ¬ i = 0), Bool.false_or]
          cases (Op.bytesLess a[i].1 a[i-1].1 || a[i].1 == a[i-1].1) <;> rfl
        · rw [if_neg (by simp; omega), decide_eq_true (by omega : i = 0)]
          rfl
      have mid : (if (!a[i].2.1) = true then (if (!(a[i].2.2.1 == [])) = true then some false else (if decide ((i : Int) > 0) = true then ixL a (IntKind.wrap .i64 ((i : Int) - 1)) fun x6 => if (Op.bytesLess a[i].1 x6.1 || a[i].1 == x6.1) = true then some false else again ((i + 1 : Nat) : Int) else again ((i + 1 : Nat) : Int))) else (if decide ((i : Int) > 0) = true then ixL a (IntKind.wrap .i64 ((i : Int) - 1)) fun x6 => if (Op.bytesLess a[i].1 x6.1 || a[i].1 == x6.1) = true then some false else again ((i + 1 : Nat) : Int) else again ((i + 1 : Nat) : Int))) =
          if ((a[i].2.1 || (a[i].2.2.1 == [])) && (decide (i = 0) || !(Op.bytesLess a[i].1 (a[i-1]'(by omega)).1 || a[i].1 == (a[i-1]'(by omega)).1))) = true then again ((i + 1 : Nat) : Int) else some false := by
        rw [last]
        cases a[i].2.1 with
        | true => rfl
        | false =>
          rw [if_pos (by rfl)]
          cases (a[i].2.2.1 == []) <;> rfl
      cases pathB a[i].1 with
      | false => rfl
      | true =>
        rw [if_neg (by simp)]
        cases rc with
        | false => rfl
        | true =>
          rw [if_neg (by simp)]
          cases h1 : (a[i].2.2.2.1 == 0) with
          | true =>
            rw [if_pos rfl]
            cases h2 : (a[i].2.2.2.2 == 0) with
            | true => rfl
            | false =>
              rw [if_neg (by simp)]
              exact mid
          | false =>
            rw [if_neg (by simp)]
            exact mid
  · rw [if_pos (by simp; omega), decide_eq_false h32]
    simp
end Go.Proofs.W.Q10
namespace Go.Proofs.W.Q10
open Go Go.Proofs.V Go.Proofs.W.Q9
set_option linter.unusedVariables false
set_option linter.unusedSimpArgs false
theorem fits56 {n : Nat} (h : n ≤ 600000000) : fitsB 56 (n : Int) = true := by
  unfold fitsB
  simp only [Int.toNat_natCast, Bool.and_eq_true, decide_eq_true_eq]
  omega
end Go.Proofs.W.Q10
namespace Go.Proofs.W.Q10
open Go Go.Proofs.V Go.Proofs.W.Q9
set_option linter.unusedVariables false
set_option linter.unusedSimpArgs false
end Go.Proofs.W.Q10
namespace Go.Proofs.W.Q10
open Go Go.Proofs.V Go.Proofs.W.Q9
set_option linter.unusedVariables false
set_option linter.unusedSimpArgs false
end Go.Proofs.W.Q10
namespace Go.Proofs.W.Q10
open Go Go.Proofs.V Go.Proofs.W.Q9
set_option linter.unusedVariables false
set_option linter.unusedSimpArgs false
end Go.Proofs.W.Q10
namespace Go.Proofs.W.Q10
open Go Go.Proofs.V Go.Proofs.W.Q9
set_option linter.unusedVariables false
set_option linter.unusedSimpArgs false
end Go.Proofs.W.Q10
