/- Plain laws for chapter 10: loops over an index; right trees; may. -/
import Derived.Test.YtdgihbbekacgcaaGreatDoorK21
import Derived.Test.YtdgihbbekacgcaaGreatDoorK24
import Derived.Test.YtdgihbbekacgcaaGreatDoorK26
import Derived.Test.YtdgihbbekacgcaaGreatDoorK20
namespace Go.Proofs.W.Q10
open Go Go.Proofs.V Go.Proofs.W.Q9
set_option linter.unusedVariables false
set_option linter.unusedSimpArgs false
/-- Where the first of these stands. -/
def idxP {α : Type} (b : α → Bool) : List α → Nat → Int
  | [], _ => -1
  | x :: l, i => if b x = true then (i : Int) else idxP b l (i + 1)
theorem idxP_any {α : Type} (b : α → Bool) : ∀ (l : List α) (i : Nat), decide (idxP b l i ≥ 0) = l.any b
  | [], i => by simp [idxP]
  | x :: l, i => by
    unfold idxP
    rw [List.any_cons]
    by_cases h : b x = true
    · rw [if_pos h, h]; simp
    · rw [if_neg h, idxP_any b l (i + 1)]
      have : b x = false := by simpa using h
      rw [this]; rfl
theorem index_loop {α : Type} (l : List α) (p : α → Option Bool) (b : α → Bool) (hl : l.length < 1000000000) (hp : ∀ x ∈ l, p x = some (b x)) :
    fixS (S := Int) (R := Int) (fun again s => if decide (s < (l.length : Int)) = true then ixL l s fun x => (p x).bind fun r => if r = true then some s else again (IntKind.wrap .i64 (s + 1)) else some (-1)) fuel 0 = some (idxP b l 0) := by
  have := fixS_idx (R := Int) (step := fun again s => if decide (s < (l.length : Int)) = true then ixL l s fun x => (p x).bind fun r => if r = true then some s else again (IntKind.wrap .i64 (s + 1)) else some (-1)) l.length (fun i => some (idxP b (l.drop i) i)) (by omega)
    (fun again => by simp [idxP]) (fun i hi again ha => by
      rw [if_pos (by simp; omega), ixL_nat hi, wrap_succ (by omega), hp _ (List.getElem_mem hi), List.drop_eq_getElem_cons hi]
      simp only [Option.bind_some, idxP]
      split
      · rfl
      · exact ha)
  simpa using this
noncomputable def underB (p q : List UInt8) : Bool := (path_Under (p, q)).getD false
theorem under_ok {p q : List UInt8} (hp : p.length ≤ 1000000) (hq : q.length ≤ 1000000) : path_Under (p, q) = some (underB p q) := by
  obtain ⟨r, hr⟩ := under_ends (p, q) hp hq
  unfold underB
  rw [hr]; rfl
theorem contT_ok {t : List Fi} {f : Fi} (ht : ∀ g ∈ t, g.1.length ≤ 1000000) (hf : f.1.length ≤ 1000000) (hl : t.length < 1000000000) : slices_ContainsFunc_File_tree_Right_1 (t, (f.1, f.2)) = some (t.any fun g => underB f.1 g.1) := by
  unfold slices_ContainsFunc_File_tree_Right_1
  have : slices_IndexFunc_File_tree_Right_1 (t, (f.1, f.2)) = some (idxP (fun g : Fi => underB f.1 g.1) t 0) := by
    unfold slices_IndexFunc_File_tree_Right_1
    refine index_loop t (fun x3 : Fi => tree_Right_1 (x3.1, (x3.2, (f.1, f.2)))) (fun g => underB f.1 g.1) hl fun x hx => ?_
    unfold tree_Right_1
    show (path_Under (f.1, x.1)).bind _ = _
    rw [under_ok hf (ht x hx)]; rfl
  show (slices_IndexFunc_File_tree_Right_1 (t, (f.1, f.2))).bind _ = _
  rw [this]
  show some _ = _
  rw [idxP_any]
/-- A right tree, all of it. -/
structure TreeX (t : List Fi) : Prop where
  len : t.length ≤ 16
  path : ∀ f ∈ t, path_Right f.1 = some true
  data : ∀ f ∈ t, f.2.length ≤ 600
  up : ∀ i, (h : i + 1 < t.length) → rgt t[i+1].1 t[i].1
  no : ∀ f ∈ t, ∀ g ∈ t, underB f.1 g.1 = false
theorem treeX_fwd {t : List Fi} (hb : ∀ g ∈ t, g.1.length ≤ 1000000) (h : tree_Right t = some true) : TreeX t := by
  unfold tree_Right at h
  split at h
  · cases h
  rename_i hl
  have hl : t.length ≤ 16 := by simp at hl; omega
  obtain ⟨k1, again, k2⟩ := loop_inv t.length (fun i => ∀ hi : i < t.length, path_Right t[i].1 = some true ∧ t[i].2.length ≤ 600 ∧ (0 < i → rgt t[i].1 (t[i-1]'(by omega)).1) ∧ (t.any fun g => underB t[i].1 g.1) = false) (fun i hi again hm => by
    rw [if_pos (by simp; omega), ixL_nat hi, wrap_succ (by omega)] at hm
    obtain ⟨r, hr, hm⟩ := bind_true hm
    cases r with
    | false => cases hm
    | true =>
    rw [if_neg (by simp)] at hm
    split at hm
    · cases hm
    rename_i hd
    have hd : t[i].2.length ≤ 600 := by simp at hd; omega
    have hc := contT_ok (f := t[i]) hb (hb _ (List.getElem_mem hi)) (by omega)
    have tail : ((slices_ContainsFunc_File_tree_Right_1 (t, (t[i].1, t[i].2))).bind fun r7 => if r7 = true then some false else again ((i + 1 : Nat) : Int)) = some true → (t.any fun g => underB t[i].1 g.1) = false ∧ again ((i + 1 : Nat) : Int) = some true := by
      intro hm
      rw [hc, Option.bind_some] at hm
      split at hm
      · cases hm
      · rename_i hn
        exact ⟨by simpa using hn, hm⟩
    split at hm
    · rename_i hpos
      have hpos : 0 < i := by simpa using hpos
      rw [pred64 hpos (by omega), ixL_nat (by omega)] at hm
      split at hm
      · cases hm
      rename_i hlt
      exact ⟨fun _ => ⟨hr, hd, fun _ => by simpa [rgt] using hlt, (tail hm).1⟩, (tail hm).2⟩
    · rename_i hpos
      exact ⟨fun _ => ⟨hr, hd, fun h0 => absurd (by simpa using h0) hpos, (tail hm).1⟩, (tail hm).2⟩) h
  refine ⟨hl, fun f hf => ?_, fun f hf => ?_, fun i hi => by simpa using (k1 (i + 1) hi hi).2.2.1 (by omega), fun f hf g hg => ?_⟩
  · obtain ⟨i, hi, rfl⟩ := List.getElem_of_mem hf
    exact (k1 i hi hi).1
  · obtain ⟨i, hi, rfl⟩ := List.getElem_of_mem hf
    exact (k1 i hi hi).2.1
  · obtain ⟨i, hi, rfl⟩ := List.getElem_of_mem hf
    have := (k1 i hi hi).2.2.2
    rw [List.any_eq_false] at this
    simpa using this g hg
theorem treeX_back {t : List Fi} (hb : ∀ g ∈ t, g.1.length ≤ 1000000) (h : TreeX t) : tree_Right t = some true := by
  have hl := h.len
  unfold tree_Right
  rw [if_neg (by simp; omega)]
  refine loop_true t.length (by omega) (fun again => by rw [if_neg (by simp)]) (fun i hi again ha => ?_)
  have hc : slices_ContainsFunc_File_tree_Right_1 (t, (t[i].1, t[i].2)) = some false := by
    rw [contT_ok (f := t[i]) hb (hb _ (List.getElem_mem hi)) (by omega)]
    congr 1
    rw [List.any_eq_false]
    intro g hg
    rw [h.no _ (List.getElem_mem hi) g hg]; simp
  rw [if_pos (by simp; omega), ixL_nat hi, wrap_succ (by omega), h.path _ (List.getElem_mem hi), Option.bind_some, if_neg (by simp), if_neg (by have := h.data _ (List.getElem_mem hi); simp; omega)]
  split
  · rename_i hpos
    have hpos : 0 < i := by simpa using hpos
    rw [pred64 hpos (by omega), ixL_nat (by omega)]
    have hu := h.up (i - 1) (by omega)
    have e : i - 1 + 1 = i := by omega
    simp only [e] at hu
    unfold rgt at hu
    rw [if_neg (by rw [hu]; simp), hc, Option.bind_some, if_neg (by simp), ha]
  · rw [hc, Option.bind_some, if_neg (by simp), ha]
theorem fits16 {n : Nat} (h : n ≤ 600000000000) : fitsB 16 (n : Int) = true := by
  unfold fitsB
  simp only [Int.toNat_natCast, Bool.and_eq_true, decide_eq_true_eq]
  omega
theorem filesP_snoc (l : List En) (e : En) : filesP (l ++ [e]) = filesP l ++ (if e.2.1 = true then [(e.1, e.2.2.1)] else []) := by
  induction l with
  | nil => simp [filesP]
  | cons a l ih =>
    rw [List.cons_append]
    unfold filesP
    rw [ih]
    split <;> simp
end Go.Proofs.W.Q10
namespace Go.Proofs.W.Q10
open Go Go.Proofs.V Go.Proofs.W.Q9
set_option linter.unusedVariables false
set_option linter.unusedSimpArgs false
def charB (b : UInt8) : Bool := (decide (97 ≤ b.toNat) && decide (b.toNat ≤ 122)) || (decide (48 ≤ b.toNat) && decide (b.toNat ≤ 57)) || decide (b.toNat = 46) || decide (b.toNat = 45)
def nameB (s : List UInt8) : Bool := decide (0 < s.length) && decide (s.length ≤ 12) && !(s == [46]) && !(s == [46, 46]) && s.all charB
theorem all_take {α : Type} {l : List α} {p : α → Bool} {i : Nat} (h : i < l.length) : (l.take (i + 1)).all p = ((l.take i).all p && p l[i]) := by
  rw [← List.take_append_getElem h, List.all_append]
  simp
/-- A loop that goes on while all are so. -/
theorem all_loop {α : Type} {l : List α} {p : α → Bool} {step : (Int → Option Bool) → Int → Option Bool} (e : Bool) (hl : l.length < 1000000000) (hlast : ∀ again, step again (l.length : Int) = some e) (hstep : ∀ i, (hi : i < l.length) → ∀ again, step again (i : Int) = if p l[i] = true then again ((i + 1 : Nat) : Int) else some false) : fixS step fuel 0 = some (l.all p && e) := by
  refine loop_run l.length (fun i s => s = (i : Int) ∧ (l.take i).all p = true) _ (by omega) (fun again s hI => ?_) (fun i hi again s hI ha => ?_) ⟨rfl, rfl⟩
  · obtain ⟨rfl, h⟩ := hI
    rw [List.take_length] at h
    rw [hlast, h]; rfl
  · obtain ⟨rfl, h⟩ := hI
    rw [hstep i hi]
    cases hp : p l[i] with
    | true => 
      rw [if_pos rfl]
      exact ha _ ⟨rfl, by rw [all_take hi, h, hp]; rfl⟩
    | false =>
      rw [if_neg (by simp)]
      have : l.all p = false := by
        rw [List.all_eq_false]
        exact ⟨l[i], List.getElem_mem hi, by rw [hp]; simp⟩
      rw [this]; rfl
theorem sixL_at {R : Type} {s : List UInt8} {i : Nat} (h : i < s.length) (f : Int → Option R) : sixL s (i : Int) f = f (s[i].toNat : Int) := by
  unfold sixL
  rw [if_pos (by omega), Int.toNat_natCast, List.getElem?_eq_getElem h]
theorem char_step {R : Type} (b : Int) (x y : Option R) (c : UInt8) (hb : b = (c.toNat : Int)) (hxy : True) :
    (if decide (b ≥ 97) = true then (if decide (b ≤ 122) = true then x else (if decide (b ≥ 48) = true then (if decide (b ≤ 57) = true then x else (if (b == 46) = true then x else (if (!(b == 45)) = true then y else x))) else (if (b == 46) = true then x else (if (!(b == 45)) = true then y else x)))) else
      (if decide (b ≥ 48) = true then (if decide (b ≤ 57) = true then x else (if (b == 46) = true then x else (if (!(b == 45)) = true then y else x))) else (if (b == 46) = true then x else (if (!(b == 45)) = true then y else x)))) = if charB c = true then x else y := by
  subst hb
  unfold charB
  simp only [decide_eq_true_eq, Bool.or_eq_true, Bool.and_eq_true, beq_iff_eq, Bool.not_eq_true', beq_eq_false_iff_ne, ne_eq]
  by_cases h : (((97 ≤ c.toNat ∧ c.toNat ≤ 122) ∨ (48 ≤ c.toNat ∧ c.toNat ≤ 57)) ∨ c.toNat = 46) ∨ c.toNat = 45
  · rw [if_pos h]
    repeat' split
    all_goals first | rfl | (exfalso; omega)
  · rw [if_neg h]
    repeat' split
    all_goals first | rfl | (exfalso; omega)
theorem refname_ok {s : List UInt8} (hs : s.length < 1000000000) : ref03_Name s = some (nameB s) := by
  unfold ref03_Name nameB
  by_cases h1 : (s.length : Int) < 1
  · rw [if_pos (by simpa using h1)]
    have : s.length = 0 := by omega
    simp [this]
  · rw [if_neg (by simpa using h1)]
    have e1 : decide (0 < s.length) = true := by simp; omega
    by_cases h2 : (s.length : Int) > 12
    · rw [if_pos (by simpa using h2)]
      have e2 : decide (s.length ≤ 12) = false := by simp; omega
      simp [e1, e2]
    · rw [if_neg (by simpa using h2)]
      have e2 : decide (s.length ≤ 12) = true := by simp; omega
      by_cases h3 : (s == [46]) = true
      · rw [if_pos h3]; simp [e1, e2, h3]
      · rw [if_neg h3]
        have e3 : (s == [46]) = false := by simpa using h3
        by_cases h4 : (s == [46, 46]) = true
        · rw [if_pos h4]; simp [e1, e2, e3, h4]
        · rw [if_neg h4]
          have e4 : (s == [46, 46]) = false := by simpa using h4
          rw [all_loop (l := s) (p := charB) true hs (fun again => by rw [if_neg (by simp)]) (fun i hi again => by
            rw [if_pos (by simp; omega), sixL_at hi, wrap_succ (by omega)]
            exact char_step _ _ _ s[i] rfl trivial)]
          simp [e1, e2, e3, e4]
theorem toBL_at (s : List UInt8) (i : Nat) (h : i < (toBL s).length) : (toBL s)[i] = ((s[i]'(by simpa [toBL] using h)).toNat : Int) := by
  simp only [toBL, List.getElem_map]
theorem idx_dash (c : UInt8) : strings_IndexByte ([46, 45], (c.toNat : Int)) = some (if c.toNat = 46 then 0 else if c.toNat = 45 then 1 else -1) := by
  unfold strings_IndexByte stringslite_IndexByte bytealg_IndexByteString
  have := c.toNat_lt
  dsimp only
  rw [if_pos (by omega), Option.bind_some, Option.bind_some]
  congr 1
  rw [Int.toNat_natCast]
  have e : c.toNat.toUInt8 = c := by simp
  rw [e]
  by_cases h1 : c = 46
  · subst h1; rfl
  · by_cases h2 : c = 45
    · subst h2; rfl
    · have k1 : ¬ c.toNat = 46 := fun h => h1 (UInt8.toNat_inj.1 h)
      have k2 : ¬ c.toNat = 45 := fun h => h2 (UInt8.toNat_inj.1 h)
      rw [if_neg k1, if_neg k2]
      have b1 : ((46 : UInt8) == c) = false := by simpa using Ne.symm h1
      have b2 : ((45 : UInt8) == c) = false := by simpa using Ne.symm h2
      simp [Lib.indexByte, b1, b2]
theorem char_step2 {R : Type} (b : Int) (x y : Option R) (c : UInt8) (hb : b = (c.toNat : Int)) :
    (if decide (b ≥ 97) = true then (if decide (b ≤ 122) = true then x else (if decide (b ≥ 48) = true then (if (!decide (b ≤ 57)) = true then (if decide ((if c.toNat = 46 then (0 : Int) else if c.toNat = 45 then 1 else -1) < 0) = true then y else x) else x) else (if decide ((if c.toNat = 46 then (0 : Int) else if c.toNat = 45 then 1 else -1) < 0) = true then y else x))) else
      (if decide (b ≥ 48) = true then (if (!decide (b ≤ 57)) = true then (if decide ((if c.toNat = 46 then (0 : Int) else if c.toNat = 45 then 1 else -1) < 0) = true then y else x) else x) else (if decide ((if c.toNat = 46 then (0 : Int) else if c.toNat = 45 then 1 else -1) < 0) = true then y else x))) = if charB c = true then x else y := by
  subst hb
  unfold charB
  have hd : (if c.toNat = 46 then (0 : Int) else if c.toNat = 45 then 1 else -1) < 0 ↔ ¬ c.toNat = 46 ∧ ¬ c.toNat = 45 := by
    by_cases h1 : c.toNat = 46
    · simp [h1]
    · by_cases h2 : c.toNat = 45
      · simp [h2]
      · simp [h1, h2]
  simp only [hd, decide_eq_true_eq, Bool.or_eq_true, Bool.and_eq_true, Bool.not_eq_true', decide_eq_false_iff_not]
  by_cases h : (((97 ≤ c.toNat ∧ c.toNat ≤ 122) ∨ (48 ≤ c.toNat ∧ c.toNat ≤ 57)) ∨ c.toNat = 46) ∨ c.toNat = 45
  · rw [if_pos h]
    repeat' split
    all_goals first | rfl | (exfalso; omega)
  · rw [if_neg h]
    repeat' split
    all_goals first | rfl | (exfalso; omega)
theorem name_ok {s : List UInt8} (hs : s.length < 1000000000) : path_Name s = some (nameB s) := by
  unfold path_Name nameB
  have hbl := toBL_len s
  refine (all_loop (l := s) (p := charB) (decide (0 < s.length) && decide (s.length ≤ 12) && !(s == [46]) && !(s == [46, 46])) hs (fun again => ?_) (fun i hi again => ?_)).trans ?_
  · rw [if_neg (by rw [hbl]; simp)]
    by_cases h1 : 0 < s.length
    · rw [if_pos (by simpa using h1)]
      by_cases h2 : s.length ≤ 12
      · rw [if_pos (by simp; omega)]
        by_cases h3 : (s == [46]) = true
        · rw [if_neg (by rw [h3]; simp), h3]; simp
        · have h3 : (s == [46]) = false := by simpa using h3
          rw [if_pos (by rw [h3]; rfl), h3]; simp [h1, h2]
      · rw [if_neg (by simp; omega), decide_eq_false h2]; simp
    · rw [if_neg (by simpa using h1), decide_eq_false h1]; simp
  · have hi' : i < (toBL s).length := by omega
    rw [if_pos (by rw [hbl]; simp; omega), ixL_nat hi', wrap_succ (by omega), toBL_at]
    simp only [idx_dash, Option.bind_some]
    exact char_step2 _ _ _ s[i] rfl
  · congr 1
    cases s.all charB <;> simp
def consH (w : List UInt8) : List (List UInt8) → List (List UInt8)
  | [] => [w]
  | x :: xs => (w ++ x) :: xs
theorem consH_nil {l : List (List UInt8)} (h : l ≠ []) : consH [] l = l := by
  cases l with
  | nil => exact absurd rfl h
  | cons x xs => rfl
theorem cutL_at {R : Type} {l : List UInt8} {a b : Nat} (h1 : a ≤ b) (h2 : b ≤ l.length) (f : List UInt8 → Option R) : cutL l (a : Int) (b : Int) f = f ((l.take b).drop a) := by
  unfold cutL
  rw [if_pos ⟨by omega, by omega, by omega⟩, Int.toNat_natCast, Int.toNat_natCast]
theorem cut_ok {s : List UInt8} (hs : s.length ≤ 1000000) : ref03_cut s = some (E.spl s) := by
  unfold ref03_cut
  refine loop_run (s.length + 1) (fun i st => ∃ out fr, st = (out, ((fr : Nat) : Int), (i : Int)) ∧ fr ≤ i ∧ out.length ≤ i ∧ (i ≤ s.length → E.spl s = out ++ consH ((s.take i).drop fr) (E.spl (s.drop i))) ∧ (i = s.length + 1 → out = E.spl s)) _ (by omega) (fun again st hI => ?_) (fun i hi again st hI ha => ?_) ⟨[], 0, rfl, by omega, by simp, fun _ => by simp [consH_nil (E.spl_ne s)], fun h => by omega⟩
  · obtain ⟨out, fr, rfl, _, _, _, h⟩ := hI
    dsimp only
    rw [if_neg (by simp; omega), h rfl]
  · obtain ⟨out, fr, rfl, hfr, hol, h, _⟩ := hI
    dsimp only
    have h := h (by omega)
    rw [if_pos (by simp; omega)]
    by_cases hin : i = s.length
    · subst hin
      rw [if_pos (by simp), cutL_at (by omega) (by omega), if_pos (fits16 (by simp; omega)), wrap_succ (by omega)]
      refine ha _ ⟨_, s.length + 1, rfl, by omega, by simp; omega, fun h => by omega, fun _ => ?_⟩
      rw [h, List.drop_length]
      simp [E.spl, consH]
    · have hi' : i < s.length := by omega
      rw [if_neg (by simp; omega), sixL_at hi']
      have hd : s.drop i = s[i] :: s.drop (i + 1) := List.drop_eq_getElem_cons hi'
      rw [hd] at h
      by_cases hb : s[i] = 47
      · rw [if_pos (by rw [hb]; rfl), cutL_at (by omega) (by omega), if_pos (fits16 (by simp; omega)), wrap_succ (by omega)]
        refine ha _ ⟨_, i + 1, rfl, by omega, by simp; omega, fun _ => ?_, fun h => by omega⟩
        rw [h, hb]
        have e1 : (s.take (i + 1)).drop (i + 1) = [] := by simp
        rw [e1, consH_nil (E.spl_ne _)]
        simp [E.spl, consH]
      · have hb' : ¬ ((s[i].toNat : Int) == 47) = true := by
          simp only [beq_iff_eq]
          intro h
          exact hb (UInt8.toNat_inj.1 (by have : s[i].toNat = 47 := by omega
                                          rw [this]; rfl))
        rw [if_neg hb', wrap_succ (by omega)]
        refine ha _ ⟨out, fr, rfl, by omega, by omega, fun _ => ?_, fun h => by omega⟩
        rw [h]
        congr 1
        have e1 : (s.take (i + 1)).drop fr = (s.take i).drop fr ++ [s[i]] := by
          rw [← List.take_append_getElem hi', List.drop_append_of_le_length (by rw [List.length_take]; omega)]
        rw [e1]
        have hs2 : E.spl (s[i] :: s.drop (i + 1)) = match E.spl (s.drop (i + 1)) with
            | w :: ws => (s[i] :: w) :: ws
            | [] => [[s[i]]] := by rw [E.spl, if_neg hb]; rfl
        rw [hs2]
        cases hsp : E.spl (s.drop (i + 1)) with
        | nil => exact absurd hsp (E.spl_ne _)
        | cons w ws => simp [consH]
def pathB (s : List UInt8) : Bool := decide ((E.spl s).length ≤ 4) && (E.spl s).all nameB
theorem spl_lens {s w : List UInt8} (hs : s.length ≤ 1000000) (hw : w ∈ E.spl s) : w.length ≤ 1000001 := by
  have hl := E.lens_spl s
  have : ∀ (l : List (List UInt8)), w ∈ l → w.length ≤ E.lens l := by
    intro l
    induction l with
    | nil => intro h; simp at h
    | cons x l ih =>
      intro h
      have e : E.lens (x :: l) = x.length + 1 + E.lens l := by simp [E.lens]
      rw [e]
      rcases List.mem_cons.1 h with rfl | h
      · omega
      · have := ih h; omega
  have := this _ hw
  omega
theorem refright_ok {s : List UInt8} (hs : s.length ≤ 1000000) : ref03_Right s = some (pathB s) := by
  unfold ref03_Right pathB
  rw [cut_ok hs, Option.bind_some]
  by_cases h : (E.spl s).length ≤ 4
  · rw [if_neg (by simp; omega), decide_eq_true h]
    have := all_loop (l := E.spl s) (p := nameB) (step := fun again2 s3 => if decide (s3 < ((E.spl s).length : Int)) = true then ixL (E.spl s) s3 fun x4 => (ref03_Name x4).bind fun r5 => if (!r5) = true then some false else again2 (IntKind.wrap .i64 (s3 + 1)) else some true) true (by omega) (fun again => by rw [if_neg (by simp)]) (fun i hi again => by
      rw [if_pos (by simp; omega), ixL_nat hi, wrap_succ (by omega), refname_ok (by have := spl_lens hs (List.getElem_mem hi); omega), Option.bind_some]
      cases nameB (E.spl s)[i] <;> rfl)
    rw [this]
    simp
  · rw [if_pos (by simp; omega), decide_eq_false h]
    rfl
theorem right_ok {s : List UInt8} (hs : s.length ≤ 1000000) : path_Right s = some (pathB s) := by
  unfold path_Right path_Names strings_Split pathB
  simp only [true_and, hs, if_true, Option.bind_some]
  by_cases h : (E.spl s).length ≤ 4
  · rw [if_neg (by simp; omega), decide_eq_true h]
    have key : fixS (S := Int) (R := List (List UInt8)) (fun again2 s3 => if decide (s3 < ((E.spl s).length : Int)) = true then ixL (E.spl s) s3 fun x4 => (path_Name x4).bind fun r5 => if (!r5) = true then some [] else again2 (IntKind.wrap .i64 (s3 + 1)) else some (E.spl s)) fuel 0 = some (if (E.spl s).all nameB = true then E.spl s else []) := by
      refine loop_run (E.spl s).length (fun i st => st = (i : Int) ∧ ((E.spl s).take i).all nameB = true) _ (by omega) (fun again st hI => ?_) (fun i hi again st hI ha => ?_) ⟨rfl, rfl⟩
      · obtain ⟨rfl, h⟩ := hI
        rw [List.take_length] at h
        rw [if_neg (by simp), if_pos h]
      · obtain ⟨rfl, h⟩ := hI
        rw [if_pos (by simp; omega), ixL_nat hi, wrap_succ (by omega), name_ok (by have := spl_lens hs (List.getElem_mem hi); omega), Option.bind_some]
        cases hp : nameB (E.spl s)[i] with
        | true =>
          rw [if_neg (by simp)]
          exact ha _ ⟨rfl, by rw [all_take hi, h, hp]; rfl⟩
        | false =>
          rw [if_pos (by rfl), if_neg]
          rw [List.all_eq_true]
          intro hall
          rw [hall _ (List.getElem_mem hi)] at hp
          cases hp
    rw [key, Option.bind_some]
    have hne := E.spl_ne s
    cases hall : (E.spl s).all nameB with
    | true =>
      rw [if_pos rfl]
      have : 0 < (E.spl s).length := List.length_pos_iff.2 hne
      simp [this]
    | false => simp
  · rw [if_pos (by simp; omega), decide_eq_false h]
    rfl
theorem refunder_ok {p q : List UInt8} (hp : p.length ≤ 1000000) (hq : q.length ≤ 1000000) : ref03_Under (p, q) = path_Under (p, q) := by
  unfold ref03_Under path_Under
  dsimp only
  rw [refright_ok hp, right_ok hp, refright_ok hq, right_ok hq]
  simp only [Option.bind_some]
  cases hp1 : pathB p with
  | false => rfl
  | true =>
    rw [if_neg (by simp), if_pos rfl]
    cases hq1 : pathB q with
    | false => rfl
    | true =>
      rw [if_neg (by simp), if_pos rfl, if_pos (fits1 (n := q.length) (by omega)), if_pos (show fitsB 1 ((([47] : List Nat).length : Int)) = true by decide)]
      unfold strings_HasPrefix stringslite_HasPrefix
      dsimp only
      by_cases h : p.length ≤ q.length
      · rw [if_pos (by simp; omega), if_neg (by simp; omega)]
        rfl
      · rw [if_neg (by simp; omega), if_pos (by simp; omega)]
        have e0 : ((q ++ [47]).length : Int) = ((q.length + 1 : Nat) : Int) := by simp
        rw [e0, show (0 : Int) = ((0 : Nat) : Int) from rfl, cutL_at (by omega) (by omega), cutL_at (by omega) (by omega), List.drop_zero, List.drop_zero, Option.bind_some, Option.bind_some]
        have hq' : q.length < p.length := by omega
        have ht : p.take (q.length + 1) = p.take q.length ++ [p[q.length]] := (List.take_append_getElem hq').symm
        rw [ht, sixL_at hq']
        have e47 : ((p[q.length].toNat : Int) == 47) = (p[q.length] == 47) := by
          by_cases h : p[q.length] = 47
          · rw [h]; rfl
          · have h2 : (p[q.length] == 47) = false := by simpa using h
            rw [h2]
            simp only [beq_eq_false_iff_ne, ne_eq]
            intro h3
            exact h (UInt8.toNat_inj.1 (by have : p[q.length].toNat = 47 := by omega
                                           rw [this]; rfl))
        by_cases hc : (p.take q.length == q) = true
        · rw [if_pos hc, e47]
          have : p.take q.length = q := by simpa using hc
          rw [this]
          congr 1
          by_cases h : p[q.length] = 47
          · rw [h]; simp
          · have h2 : (p[q.length] == 47) = false := by simpa using h
            rw [h2]
            simp [h]
        · rw [if_neg hc]
          congr 1
          have hne : ¬ p.take q.length = q := by simpa using hc
          symm
          simp only [beq_eq_false_iff_ne, ne_eq]
          intro h
          exact hne (List.append_inj_left' h rfl)
end Go.Proofs.W.Q10
namespace Go.Proofs.W.Q10
open Go Go.Proofs.V Go.Proofs.W.Q9
set_option linter.unusedVariables false
set_option linter.unusedSimpArgs false
def joinC (c d : Int × Int) : Int × Int := (max c.1 d.1, max c.2 d.2)
def sameV (a b : En) : Bool := (a.2.1 == b.2.1) && (a.2.2.1 == b.2.2.1)
def meetP (a b : En) : En × Bool := if sameV a b = true then ((a.1, (a.2.1, (a.2.2.1, joinC a.2.2.2 b.2.2.2))), false) else (a, true)
/-- What comes of two entries of one path. -/
def comeP (a b : En) : En × Bool :=
  if b.2.2.2.1 ≤ a.2.2.2.1 ∧ b.2.2.2.2 ≤ a.2.2.2.2 then (if a.2.2.2.1 = b.2.2.2.1 ∧ a.2.2.2.2 = b.2.2.2.2 then meetP a b else (a, false))
  else if a.2.2.2.1 ≤ b.2.2.2.1 ∧ a.2.2.2.2 ≤ b.2.2.2.2 then (b, false) else meetP a b
/-- .. of two that may not be there. -/
def joinO : Option En → Option En → Option (En × Bool)
  | some x, none => some (x, false)
  | none, some y => some (y, false)
  | some x, some y => some (comeP x y)
  | none, none => none
def pick (a b : List En) (q : List UInt8) : En × Bool := (joinO (getL a q) (getL b q)).getD (([], (false, ([], (0, 0)))), false)
structure Small (a : List En) : Prop where
  n : a.length ≤ 60
  p : ∀ e ∈ a, e.1.length ≤ 100
/-- Merge's bounds. -/
structure Mid (a : List En) : Prop where
  n : a.length ≤ 64
  p : ∀ e ∈ a, e.1.length ≤ 1000000
theorem Small.mid {a : List En} (h : Small a) : Mid a := ⟨by have := h.n; omega, fun e he => by have := h.p e he; omega⟩
theorem Mid.ends {a : List En} (h : Mid a) : ∃ r, scan_Right a = some r := scanRight_ends a h.p (by have := h.n; omega)
theorem Mid.right {a : List En} (h : Mid a) (k : scan_Right a = some true) : RightS a := right_fwd (by have := h.n; omega) k
end Go.Proofs.W.Q10
namespace Go.Proofs.W.Q10
open Go Go.Proofs.V Go.Proofs.W.Q9
set_option linter.unusedVariables false
set_option linter.unusedSimpArgs false
theorem few_small {a : List En} (h : (decide (a.length ≤ 60) && a.all okEn) = true) : Small a := by
  simp only [Bool.and_eq_true, decide_eq_true_eq] at h
  refine ⟨h.1, fun e he => ?_⟩
  have := List.all_eq_true.1 h.2 e he
  simp only [okEn, Bool.and_eq_true, decide_eq_true_eq] at this
  exact this.1
end Go.Proofs.W.Q10
namespace Go.Proofs.W.Q10
open Go Go.Proofs.V Go.Proofs.W.Q9
set_option linter.unusedVariables false
set_option linter.unusedSimpArgs false
/-- Clocks: strictly before. -/
def ltC (c d : Int × Int) : Prop := (c.1 ≤ d.1 ∧ c.2 ≤ d.2) ∧ ¬ (c.1 = d.1 ∧ c.2 = d.2)
instance (c d : Int × Int) : Decidable (ltC c d) := by unfold ltC; infer_instance
end Go.Proofs.W.Q10
