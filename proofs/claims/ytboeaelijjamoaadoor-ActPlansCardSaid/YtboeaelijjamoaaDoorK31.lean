/- Plain laws for chapter 10: loops over an index; right trees; may. -/
import Derived.Test.YtboeaelijjamoaaDoorK25
import Derived.Test.YtboeaelijjamoaaDoorK28
import Derived.Test.YtboeaelijjamoaaDoorK30
import Derived.Test.YtboeaelijjamoaaDoorK24
namespace Go.Proofs.W.Q10
open Go Go.Proofs.V Go.Proofs.W.Q9
set_option linter.unusedVariables false
set_option linter.unusedSimpArgs false
/-- Where the first of these stands. -/
def idxP {α : Type} (b : α → Bool) : List α → Nat → Int
  | [], _ => -1
  | x :: l, i => if b x = true then (i : Int) else idxP b l (i + 1)
theorem idxP_any {α : Type} (b : α → Bool) : ∀ (l : List α) (i : Nat), decide (idxP b l i ≥ 0) = l.any b
  | [], i => by simp [idxP]
  | x :: l, i => by
    unfold idxP
    rw [List.any_cons]
    by_cases h : b x = true
    · rw [if_pos h, h]; simp
    · rw [if_neg h, idxP_any b l (i + 1)]
      have : b x = false := by simpa using h
      rw [this]; rfl
theorem index_loop {α : Type} (l : List α) (p : α → Option Bool) (b : α → Bool) (hl : l.length < 1000000000) (hp : ∀ x ∈ l, p x = some (b x)) :
    fixS (S := Int) (R := Int) (fun again s => if decide (s < (l.length : Int)) = true then ixL l s fun x => (p x).bind fun r => if r = true then some s else again (IntKind.wrap .i64 (s + 1)) else some (-1)) fuel 0 = some (idxP b l 0) := by
  have := fixS_idx (R := Int) (step := fun again s => if decide (s < (l.length : Int)) = true then ixL l s fun x => (p x).bind fun r => if r = true then some s else again (IntKind.wrap .i64 (s + 1)) else some (-1)) l.length (fun i => some (idxP b (l.drop i) i)) (by omega)
    (fun again => by simp [idxP]) (fun i hi again ha => by
      rw [if_pos (by simp; omega), ixL_nat hi, wrap_succ (by omega), hp _ (List.getElem_mem hi), List.drop_eq_getElem_cons hi]
      simp only [Option.bind_some, idxP]
      split
      · rfl
      · exact ha)
  simpa using this
noncomputable def underB (p q : List UInt8) : Bool := (path_Under (p, q)).getD false
theorem under_ok {p q : List UInt8} (hp : p.length ≤ 1000000) (hq : q.length ≤ 1000000) : path_Under (p, q) = some (underB p q) := by
  obtain ⟨r, hr⟩ := under_ends (p, q) hp hq
  unfold underB
  rw [hr]; rfl
theorem contT_ok {t : List Fi} {f : Fi} (ht : ∀ g ∈ t, g.1.length ≤ 1000000) (hf : f.1.length ≤ 1000000) (hl : t.length < 1000000000) : slices_ContainsFunc_File_tree_Right_1 (t, (f.1, f.2)) = some (t.any fun g => underB f.1 g.1) := by
  unfold slices_ContainsFunc_File_tree_Right_1
  have : slices_IndexFunc_File_tree_Right_1 (t, (f.1, f.2)) = some (idxP (fun g : Fi => underB f.1 g.1) t 0) := by
    unfold slices_IndexFunc_File_tree_Right_1
    refine index_loop t (fun x3 : Fi => tree_Right_1 (x3.1, (x3.2, (f.1, f.2)))) (fun g => underB f.1 g.1) hl fun x hx => ?_
    unfold tree_Right_1
    show (path_Under (f.1, x.1)).bind _ = _
    rw [under_ok hf (ht x hx)]; rfl
  show (slices_IndexFunc_File_tree_Right_1 (t, (f.1, f.2))).bind _ = _
  rw [this]
  show some _ = _
  rw [idxP_any]
/-- A right tree, all of it. -/
structure TreeX (t : List Fi) : Prop where
  len : t.length ≤ 16
  path : ∀ f ∈ t, path_Right f.1 = some true
  data : ∀ f ∈ t, f.2.length ≤ 600
  up : ∀ i, (h : i + 1 < t.length) → rgt t[i+1].1 t[i].1
  no : ∀ f ∈ t, ∀ g ∈ t, underB f.1 g.1 = false
theorem treeX_fwd {t : List Fi} (hb : ∀ g ∈ t, g.1.length ≤ 1000000) (h : tree_Right t = some true) : TreeX t := by
  unfold tree_Right at h
  split at h
  · cases h
  rename_i hl
  have hl : t.length ≤ 16 := by simp at hl; omega
  obtain ⟨k1, again, k2⟩ := loop_inv t.length (fun i => ∀ hi : i < t.length, path_Right t[i].1 = some true ∧ t[i].2.length ≤ 600 ∧ (0 < i → rgt t[i].1 (t[i-1]'(by omega)).1) ∧ (t.any fun g => underB t[i].1 g.1) = false) (fun i hi again hm => by
    rw [if_pos (by simp; omega), ixL_nat hi, wrap_succ (by omega)] at hm
    obtain ⟨r, hr, hm⟩ := bind_true hm
    cases r with
    | false => cases hm
    | true =>
    rw [if_neg (by simp)] at hm
    split at hm
    · cases hm
    rename_i hd
    have hd : t[i].2.length ≤ 600 := by simp at hd; omega
    have hc := contT_ok (f := t[i]) hb (hb _ (List.getElem_mem hi)) (by omega)
    have tail : ((slices_ContainsFunc_File_tree_Right_1 (t, (t[i].1, t[i].2))).bind fun r7 => if r7 = true then some false else again ((i + 1 : Nat) : Int)) = some true → (t.any fun g => underB t[i].1 g.1) = false ∧ again ((i + 1 : Nat) : Int) = some true := by
      intro hm
      rw [hc, Option.bind_some] at hm
      split at hm
      · cases hm
      · rename_i hn
        exact ⟨by simpa using hn, hm⟩
    split at hm
    · rename_i hpos
      have hpos : 0 < i := by simpa using hpos
      rw [pred64 hpos (by omega), ixL_nat (by omega)] at hm
      split at hm
      · cases hm
      rename_i hlt
      exact ⟨fun _ => ⟨hr, hd, fun _ => by simpa [rgt] using hlt, (tail hm).1⟩, (tail hm).2⟩
    · rename_i hpos
      exact ⟨fun _ => ⟨hr, hd, fun h0 => absurd (by simpa using h0) hpos, (tail hm).1⟩, (tail hm).2⟩) h
  refine ⟨hl, fun f hf => ?_, fun f hf => ?_, fun i hi => by simpa using (k1 (i + 1) hi hi).2.2.1 (by omega), fun f hf g hg => ?_⟩
  · obtain ⟨i, hi, rfl⟩ := List.getElem_of_mem hf
    exact (k1 i hi hi).1
  · obtain ⟨i, hi, rfl⟩ := List.getElem_of_mem hf
    exact (k1 i hi hi).2.1
  · obtain ⟨i, hi, rfl⟩ := List.getElem_of_mem hf
    have := (k1 i hi hi).2.2.2
    rw [List.any_eq_false] at this
    simpa using this g hg
theorem treeX_back {t : List Fi} (hb : ∀ g ∈ t, g.1.length ≤ 1000000) (h : TreeX t) : tree_Right t = some true := by
  have hl := h.len
  unfold tree_Right
  rw [if_neg (by simp; omega)]
  refine loop_true t.length (by omega) (fun again => by rw [if_neg (by simp)]) (fun i hi again ha => ?_)
  have hc : slices_ContainsFunc_File_tree_Right_1 (t, (t[i].1, t[i].2)) = some false := by
    rw [contT_ok (f := t[i]) hb (hb _ (List.getElem_mem hi)) (by omega)]
    congr 1
    rw [List.any_eq_false]
    intro g hg
    rw [h.no _ (List.getElem_mem hi) g hg]; simp
  rw [if_pos (by simp; omega), ixL_nat hi, wrap_succ (by omega), h.path _ (List.getElem_mem hi), Option.bind_some, if_neg (by simp), if_neg (by have := h.data _ (List.getElem_mem hi); simp; omega)]
  split
  · rename_i hpos
    have hpos : 0 < i := by simpa using hpos
    rw [pred64 hpos (by omega), ixL_nat (by omega)]
    have hu := h.up (i - 1) (by omega)
    have e : i - 1 + 1 = i := by omega
    simp only [e] at hu
    unfold rgt at hu
    rw [if_neg (by rw [hu]; simp), hc, Option.bind_some, if_neg (by simp), ha]
  · rw [hc, Option.bind_some, if_neg (by simp), ha]
noncomputable def clashB (p q : List UInt8) : Bool := underB p q || underB q p
theorem clash_ok {p q : List UInt8} (hp : p.length ≤ 1000000) (hq : q.length ≤ 1000000) : path_Clash (p, q) = some (clashB p q) := by
  unfold path_Clash clashB
  simp only [under_ok hp hq, under_ok hq hp, Option.bind_some]
  cases underB p q <;> simp
end Go.Proofs.W.Q10
namespace Go.Proofs.W.Q10
open Go Go.Proofs.V Go.Proofs.W.Q9
set_option linter.unusedVariables false
set_option linter.unusedSimpArgs false
end Go.Proofs.W.Q10
namespace Go.Proofs.W.Q10
open Go Go.Proofs.V Go.Proofs.W.Q9
set_option linter.unusedVariables false
set_option linter.unusedSimpArgs false
def joinC (c d : Int × Int) : Int × Int := (max c.1 d.1, max c.2 d.2)
def sameV (a b : En) : Bool := (a.2.1 == b.2.1) && (a.2.2.1 == b.2.2.1)
def meetP (a b : En) : En × Bool := if sameV a b = true then ((a.1, (a.2.1, (a.2.2.1, joinC a.2.2.2 b.2.2.2))), false) else (a, true)
/-- What comes of two entries of one path. -/
def comeP (a b : En) : En × Bool :=
  if b.2.2.2.1 ≤ a.2.2.2.1 ∧ b.2.2.2.2 ≤ a.2.2.2.2 then (if a.2.2.2.1 = b.2.2.2.1 ∧ a.2.2.2.2 = b.2.2.2.2 then meetP a b else (a, false))
  else if a.2.2.2.1 ≤ b.2.2.2.1 ∧ a.2.2.2.2 ≤ b.2.2.2.2 then (b, false) else meetP a b
/-- .. of two that may not be there. -/
def joinO : Option En → Option En → Option (En × Bool)
  | some x, none => some (x, false)
  | none, some y => some (y, false)
  | some x, some y => some (comeP x y)
  | none, none => none
def pick (a b : List En) (q : List UInt8) : En × Bool := (joinO (getL a q) (getL b q)).getD (([], (false, ([], (0, 0)))), false)
structure Small (a : List En) : Prop where
  n : a.length ≤ 60
  p : ∀ e ∈ a, e.1.length ≤ 100
/-- Merge's bounds. -/
structure Mid (a : List En) : Prop where
  n : a.length ≤ 64
  p : ∀ e ∈ a, e.1.length ≤ 1000000
theorem Small.mid {a : List En} (h : Small a) : Mid a := ⟨by have := h.n; omega, fun e he => by have := h.p e he; omega⟩
theorem Mid.ends {a : List En} (h : Mid a) : ∃ r, scan_Right a = some r := scanRight_ends a h.p (by have := h.n; omega)
theorem Mid.right {a : List En} (h : Mid a) (k : scan_Right a = some true) : RightS a := right_fwd (by have := h.n; omega) k
end Go.Proofs.W.Q10
namespace Go.Proofs.W.Q10
open Go Go.Proofs.V Go.Proofs.W.Q9
set_option linter.unusedVariables false
set_option linter.unusedSimpArgs false
abbrev AscE (a : List En) : Prop := Asc (fun e : En => e.1) a
theorem asc_inj {α : Type} {f : α → List UInt8} : ∀ {a : List α}, Asc f a → ∀ {x y : α}, x ∈ a → y ∈ a → f x = f y → x = y
  | [], _, x, y, hx, _, _ => by cases hx
  | e :: l, h, x, y, hx, hy, he => by
    have h' := List.pairwise_cons.1 h
    rcases List.mem_cons.1 hx with ex | hx'
    · rcases List.mem_cons.1 hy with ey | hy'
      · rw [ex, ey]
      · rw [ex] at he; exact absurd he (les_ne (h'.1 y hy'))
    · rcases List.mem_cons.1 hy with ey | hy'
      · rw [ey] at he; exact absurd he.symm (les_ne (h'.1 x hx'))
      · exact asc_inj h'.2 hx' hy' he
theorem RightS.asc {a : List En} (h : RightS a) : AscE a := asc_of _ a h.up
theorem few_small {a : List En} (h : (decide (a.length ≤ 60) && a.all okEn) = true) : Small a := by
  simp only [Bool.and_eq_true, decide_eq_true_eq] at h
  refine ⟨h.1, fun e he => ?_⟩
  have := List.all_eq_true.1 h.2 e he
  simp only [okEn, Bool.and_eq_true, decide_eq_true_eq] at this
  exact this.1
end Go.Proofs.W.Q10
namespace Go.Proofs.W.Q10
open Go Go.Proofs.V Go.Proofs.W.Q9
set_option linter.unusedVariables false
set_option linter.unusedSimpArgs false
/-- Clocks: strictly before. -/
def ltC (c d : Int × Int) : Prop := (c.1 ≤ d.1 ∧ c.2 ≤ d.2) ∧ ¬ (c.1 = d.1 ∧ c.2 = d.2)
instance (c d : Int × Int) : Decidable (ltC c d) := by unfold ltC; infer_instance
end Go.Proofs.W.Q10
