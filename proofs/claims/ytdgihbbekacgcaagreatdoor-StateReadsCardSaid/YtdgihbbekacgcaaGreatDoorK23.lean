/- small, reckoned. -/
import Derived.Test.YtdgihbbekacgcaaGreatDoorK20
import Derived.KernelRfl
import Derived.Test.YtdgihbbekacgcaaGreatDoorK22
namespace Go.Proofs.W.Q9
open Go Go.Proofs.V
set_option linter.unusedVariables false
set_option linter.unusedSimpArgs false
set_option maxRecDepth 100000
set_option maxHeartbeats 4000000
end Go.Proofs.W.Q9
namespace Go.Proofs.W.Q9
open Go Go.Proofs.V
set_option linter.unusedVariables false
set_option linter.unusedSimpArgs false
abbrev En := List UInt8 × (Bool × (List UInt8 × (Int × Int)))
abbrev Fi := List UInt8 × List UInt8
def okEn (e : En) : Bool := decide (e.1.length ≤ 100) && decide (e.2.2.1.length ≤ 1000)
def okFi (e : Fi) : Bool := decide (e.1.length ≤ 100) && decide (e.2.length ≤ 1000)
end Go.Proofs.W.Q9
namespace Go.Proofs.W.Q9
open Go Go.Proofs.V
set_option linter.unusedVariables false
set_option linter.unusedSimpArgs false
def gone (p : List UInt8) : En := (p, (false, ([], (0, 0))))
def has (f : Fi) : En := (f.1, (true, (f.2, (0, 0))))
end Go.Proofs.W.Q9
namespace Go.Proofs.W.Q9
open Go Go.Proofs.V
set_option linter.unusedVariables false
set_option linter.unusedSimpArgs false
end Go.Proofs.W.Q9
namespace Go.Proofs.W.Q9
open Go Go.Proofs.V
set_option linter.unusedVariables false
set_option linter.unusedSimpArgs false
def same (p : En × En) : Prop := p.2.1 = p.1.1 ∧ p.2.2.1 = p.1.2.1 ∧ p.2.2.2.1 = p.1.2.2.1
theorem fits56 {n : Nat} (h : n ≤ 600000000000) : fitsB 56 (n : Int) = true := by
  unfold fitsB
  simp only [Int.toNat_natCast, Bool.and_eq_true, decide_eq_true_eq]
  omega
theorem fits16 {n : Nat} (h : n ≤ 600000000000) : fitsB 16 (n : Int) = true := by
  unfold fitsB
  simp only [Int.toNat_natCast, Bool.and_eq_true, decide_eq_true_eq]
  omega
theorem step_same {R : Type} {p : En × En} (hp : same p) {n : Int} {x : List En} {y : List (List UInt8)} {z : Int} {ents : List En} {ps : List (List UInt8)} (hl : ents.length < 600000000000) {k kr : Int × (List En × (List (List UInt8) × (Int × (List En × List (List UInt8))))) → Option R} :
    scan_step p (n, (x, (y, (z, (ents, ps))))) k kr = k (n, (x, (y, (z, (ents ++ [p.1], ps))))) := by
  obtain ⟨⟨a1, a2, a3, a4, a5⟩, ⟨b1, b2, b3, b4, b5⟩⟩ := p
  obtain ⟨h1, h2, h3⟩ := hp
  simp only at h1 h2 h3
  subst h1 h2 h3
  unfold scan_step
  simp only [beq_self_eq_true, Bool.and_self, Bool.not_true, Bool.false_eq_true, if_false]
  rw [if_pos (fits56 (by simp; omega))]
end Go.Proofs.W.Q9
namespace Go.Proofs.W.Q9
open Go Go.Proofs.V
set_option linter.unusedVariables false
set_option linter.unusedSimpArgs false
def filesP : List En → List Fi
  | [] => []
  | e :: l => if e.2.1 = true then (e.1, e.2.2.1) :: filesP l else filesP l
theorem filesP_len : ∀ l, (filesP l).length ≤ l.length
  | [] => by simp [filesP]
  | e :: l => by
    have := filesP_len l
    unfold filesP
    split <;> simp <;> omega
theorem fits32 {n : Nat} (h : n ≤ 600000000000) : fitsB 32 (n : Int) = true := by
  unfold fitsB
  simp only [Int.toNat_natCast, Bool.and_eq_true, decide_eq_true_eq]
  omega
theorem files_ok (a : List En) (hl : a.length < 300000000000) : scan_files a = some (filesP a) := by
  unfold scan_files
  have key : ∀ (s : List Fi) (k i m : Nat), i + k = a.length → k < m → s.length ≤ i → fixN (S := (List Fi) × Int) (R := List Fi) (fun again1 s2 =>
    if decide (s2.2 < (a.length : Int)) then
      ixL a s2.2 fun x3 =>
      if x3.2.1 then
        if (fitsB 32 ((s2.1 ++ [(x3.1, x3.2.2.1)]).length : Int)) then
          again1 ((s2.1 ++ [(x3.1, x3.2.2.1)]), (IntKind.wrap .i64 (s2.2 + 1)))
        else none
      else
        again1 (s2.1, (IntKind.wrap .i64 (s2.2 + 1)))
    else
      some s2.1) m (s, (i : Int)) = some (s ++ filesP (a.drop i)) := by
    intro s k
    induction k generalizing s with
    | zero =>
      intro i m hi hm hs
      obtain ⟨m, rfl⟩ : ∃ m', m = m' + 1 := ⟨m - 1, by omega⟩
      have : i = a.length := by omega
      subst this
      rw [fixN]
      simp [filesP]
    | succ k ih =>
      intro i m hi hm hs
      obtain ⟨m, rfl⟩ : ∃ m', m = m' + 1 := ⟨m - 1, by omega⟩
      have hi' : i < a.length := by omega
      rw [fixN]
      simp only
      rw [if_pos (by simp; omega), ixL_nat hi', wrap_succ (by omega), List.drop_eq_getElem_cons hi']
      unfold filesP
      split
      · rename_i hh
        rw [if_pos (fits32 (by simp; omega)), ih _ (i + 1) m (by omega) (by omega) (by simp; omega)]
        simp [hh]
      · rename_i hh
        rw [ih _ (i + 1) m (by omega) (by omega) (by omega)]

  rw [fixS_eq]
  have := key [] a.length 0 fuel (by omega) (by unfold fuel; omega) (by simp)
  simpa using this
end Go.Proofs.W.Q9
namespace Go.Proofs.W.Q9
open Go Go.Proofs.V
set_option linter.unusedVariables false
set_option linter.unusedSimpArgs false
def rgt (x y : List UInt8) : Prop := (Op.bytesLess x y || x == y) = false
structure RightA (a : List En) : Prop where
  len : a.length ≤ 32
  tree : tree_Right (filesP a) = some true
  up : ∀ i, (h : i + 1 < a.length) → rgt a[i+1].1 a[i].1
  empty : ∀ i, (h : i < a.length) → a[i].2.1 = false → a[i].2.2.1 = []
theorem bind_true {α : Type} {o : Option α} {f : α → Option Bool} (h : o.bind f = some true) : ∃ x, o = some x ∧ f x = some true := Option.bind_eq_some_iff.1 h
noncomputable def rstep (x : List En) (again1 : Int → Option Bool) (s2 : Int) : Option Bool :=
    if decide (s2 < (x.length : Int)) then
      ixL x s2 fun x3 =>
      (path_Right x3.1).bind fun r4 =>
      if (!r4) then
        some false
      else
        if decide (s2 > 0) then
          ixL x (IntKind.wrap .i64 (s2 - 1)) fun x5 =>
          if (Op.bytesLess x3.1 x5.1 || x3.1 == x5.1) then
            some false
          else
            (clock_Right (x3.2.2.2.1, x3.2.2.2.2)).bind fun r6 =>
            if (!r6) then
              some false
            else
              if ((x3.2.2.2.1 == 0) && (x3.2.2.2.2 == 0)) then
                some false
              else
                if (!x3.2.1) then
                  if (!(x3.2.2.1 == [])) then
                    some false
                  else
                    again1 (IntKind.wrap .i64 (s2 + 1))
                else
                  again1 (IntKind.wrap .i64 (s2 + 1))
        else
          (clock_Right (x3.2.2.2.1, x3.2.2.2.2)).bind fun r7 =>
          if (!r7) then
            some false
          else
            if ((x3.2.2.2.1 == 0) && (x3.2.2.2.2 == 0)) then
              some false
            else
              if (!x3.2.1) then
                if (!(x3.2.2.1 == [])) then
                  some false
                else
                  again1 (IntKind.wrap .i64 (s2 + 1))
              else
                again1 (IntKind.wrap .i64 (s2 + 1))
    else
      if decide ((x.length : Int) ≤ 32) then
        (scan_files x).bind fun r8 =>
        (tree_Right r8).bind fun r9 =>
        some r9
      else
        some false
theorem right_step (x : List En) : scan_Right x = fixS (rstep x) fuel 0 := rfl
end Go.Proofs.W.Q9
namespace Go.Proofs.W.Q9
open Go Go.Proofs.V
set_option linter.unusedVariables false
set_option linter.unusedSimpArgs false
/-- Strictly rising, and no data without a file. -/
def okA : List En → Prop
  | [] => True
  | e :: l => (e.2.1 = false → e.2.2.1 = []) ∧ (∀ f ∈ l, Op.bytesLess e.1 f.1 = true) ∧ okA l
theorem files_mem : ∀ {l : List En} {f : Fi}, f ∈ filesP l → ∃ e ∈ l, e.1 = f.1
  | [], f, h => by simp [filesP] at h
  | e :: l, f, h => by
    unfold filesP at h
    split at h
    · rcases List.mem_cons.1 h with rfl | h
      · exact ⟨e, by simp, rfl⟩
      · obtain ⟨x, hx, he⟩ := files_mem h
        exact ⟨x, by simp [hx], he⟩
    · obtain ⟨x, hx, he⟩ := files_mem h
      exact ⟨x, by simp [hx], he⟩
end Go.Proofs.W.Q9
namespace Go.Proofs.W.Q9
open Go Go.Proofs.V
set_option linter.unusedVariables false
set_option linter.unusedSimpArgs false
theorem less_trans : ∀ {x y z : List UInt8}, Op.bytesLess x y = true → Op.bytesLess y z = true → Op.bytesLess x z = true
  | [], [], z, h, _ => by simp [Op.bytesLess] at h
  | [], y :: ys, [], _, h => by simp [Op.bytesLess] at h
  | [], y :: ys, z :: zs, _, _ => by simp [Op.bytesLess]
  | x :: xs, [], z, h, _ => by simp [Op.bytesLess] at h
  | x :: xs, y :: ys, [], _, h => by simp [Op.bytesLess] at h
  | x :: xs, y :: ys, z :: zs, h1, h2 => by
    have ih := @less_trans xs ys zs
    simp only [Op.bytesLess, Bool.or_eq_true, Bool.and_eq_true, decide_eq_true_eq, beq_iff_eq] at h1 h2 ⊢
    rcases h1 with h1 | ⟨rfl, h1⟩
    · rcases h2 with h2 | ⟨rfl, h2⟩
      · exact .inl (UInt8.lt_trans h1 h2)
      · exact .inl h1
    · rcases h2 with h2 | ⟨rfl, h2⟩
      · exact .inl h2
      · exact .inr ⟨rfl, ih h1 h2⟩
theorem less_total : ∀ {x y : List UInt8}, Op.bytesLess x y = false → ¬ x = y → Op.bytesLess y x = true
  | [], [], _, h => absurd rfl h
  | [], y :: ys, h, _ => by simp [Op.bytesLess] at h
  | x :: xs, [], _, _ => by simp [Op.bytesLess]
  | x :: xs, y :: ys, h, hne => by
    have ih := @less_total xs ys
    simp only [Op.bytesLess, Bool.or_eq_false_iff, Bool.and_eq_false_imp, decide_eq_false_iff_not, beq_iff_eq] at h
    simp only [Op.bytesLess, Bool.or_eq_true, Bool.and_eq_true, decide_eq_true_eq, beq_iff_eq]
    rcases UInt8.lt_or_eq_of_le (UInt8.not_lt.1 h.1) with h1 | h1
    · exact .inl h1
    · subst h1
      exact .inr ⟨rfl, ih (h.2 rfl) fun e => hne (by rw [e])⟩
end Go.Proofs.W.Q9
