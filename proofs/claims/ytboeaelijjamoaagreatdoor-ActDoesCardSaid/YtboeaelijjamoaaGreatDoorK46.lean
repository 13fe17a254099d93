/- Trees: put and drop, as functions of paths. -/
import Derived.Test.YtboeaelijjamoaaGreatDoorK34
import Derived.Test.YtboeaelijjamoaaGreatDoorK33
namespace Go.Proofs.W.Q11
open Go Go.Proofs.V Go.Proofs.W.Q9 Go.Proofs.W.Q10
set_option linter.unusedVariables false
set_option linter.unusedSimpArgs false
theorem less_ne {x y : List UInt8} (h : Op.bytesLess x y = true) : x ≠ y := fun e => by subst e; rw [less_irrefl] at h; cases h
/-- A tree, cut where a path stands, or would stand. -/
theorem split_at {t : List Fi} (ht : AscF t) (hl : t.length ≤ 1000000) (p : List UInt8) : ∃ (A C B : List Fi) (is : Bool), t = A ++ C ++ B ∧ (∀ x ∈ A, Les x.1 p) ∧ (∀ x ∈ B, Les p x.1) ∧ (is = false ∧ C = [] ∨ is = true ∧ ∃ d0, C = [(p, d0)]) ∧ tree_place (t, p) = some ((A.length : Int), is) := by
  obtain ⟨k, hk, hless, hp⟩ := place_ok ht hl p
  have hA : ∀ x ∈ t.take k, Les x.1 p := by
    intro x hx
    obtain ⟨i, hi, rfl⟩ := List.mem_iff_getElem.1 hx
    rw [List.getElem_take]
    rw [List.length_take] at hi
    exact (hless i (by omega)).2 (by omega)
  have hgt : ∀ i, (hi : i < t.length) → (hki : k < i) → Les (t[k]'(by omega)).1 t[i].1 := fun i hi hki => List.pairwise_iff_getElem.1 ht k i (by omega) hi hki
  have hal : (t.take k).length = k := by rw [List.length_take]; omega
  by_cases h : k < t.length
  · rw [dif_pos h] at hp
    have hnl : ¬ Op.bytesLess t[k].1 p = true := fun e => by have := (hless k h).1 e; omega
    cases e : (t[k].1 == p) with
    | true =>
      rw [e] at hp
      have e : t[k].1 = p := by simpa using e
      refine ⟨t.take k, [(p, t[k].2)], t.drop (k + 1), true, ?_, hA, ?_, .inr ⟨rfl, t[k].2, rfl⟩, by rw [hal]; exact hp⟩
      · have : (p, t[k].2) = t[k] := by rw [← e]
        rw [this, List.append_assoc, List.singleton_append, ← List.drop_eq_getElem_cons h, List.take_append_drop]
      · intro x hx
        obtain ⟨i, hi, rfl⟩ := List.mem_iff_getElem.1 hx
        rw [List.getElem_drop]
        rw [List.length_drop] at hi
        have := hgt (k + 1 + i) (by omega) (by omega)
        rwa [e] at this
    | false =>
      rw [e] at hp
      have e : ¬ t[k].1 = p := by simpa using e
      have hpk : Les p t[k].1 := less_total (by simpa using hnl) e
      refine ⟨t.take k, [], t.drop k, false, by simp, hA, ?_, .inl ⟨rfl, rfl⟩, by rw [hal]; exact hp⟩
      intro x hx
      obtain ⟨i, hi, rfl⟩ := List.mem_iff_getElem.1 hx
      rw [List.getElem_drop]
      rw [List.length_drop] at hi
      match i with
      | 0 => exact hpk
      | i + 1 => exact less_trans hpk (hgt (k + (i + 1)) (by omega) (by omega))
  · rw [dif_neg h] at hp
    refine ⟨t.take k, [], t.drop k, false, by simp, hA, ?_, .inl ⟨rfl, rfl⟩, by rw [hal]; exact hp⟩
    rw [List.drop_eq_nil_of_le (by omega)]
    intro x hx; cases hx
theorem asc_put {A B : List Fi} {p d : List UInt8} (hA : ∀ x ∈ A, Les x.1 p) (hB : ∀ x ∈ B, Les p x.1) (h : AscF (A ++ B)) : AscF (A ++ [(p, d)] ++ B) := by
  have h := List.pairwise_append.1 h
  rw [List.append_assoc]
  refine List.pairwise_append.2 ⟨h.1, List.pairwise_append.2 ⟨List.pairwise_singleton _ _, h.2.1, fun x hx y hy => ?_⟩, fun x hx y hy => ?_⟩
  · simp at hx; subst hx; exact hB y hy
  · rcases List.mem_append.1 hy with hy | hy
    · simp at hy; subst hy; exact hA x hx
    · exact h.2.2 x hx y hy
theorem asc_cut {A C B : List Fi} (h : AscF (A ++ C ++ B)) : AscF (A ++ B) := List.Pairwise.sublist (by rw [List.append_assoc]; exact (List.sublist_append_right C B).append_left A) h
/-- A tree's function, once something was put. -/
theorem getT_put {t t' : List Fi} (ht : AscF t) (ht' : AscF t') {p d : List UInt8} (hm : ∀ x, x ∈ t' ↔ x = (p, d) ∨ (x ∈ t ∧ x.1 ≠ p)) (q : List UInt8) : getT t' q = if q = p then some d else getT t q := by
  refine Option.ext fun d' => ?_
  rw [getT_iff ht', hm]
  by_cases h : q = p
  · subst h
    rw [if_pos rfl]
    constructor
    · rintro (e | ⟨_, e⟩)
      · cases e; rfl
      · exact absurd rfl e
    · intro e; cases e; exact .inl rfl
  · rw [if_neg h, getT_iff ht]
    constructor
    · rintro (e | ⟨e, _⟩)
      · cases e; exact absurd rfl h
      · exact e
    · exact fun e => .inr ⟨e, h⟩
theorem getT_drop {t t' : List Fi} (ht : AscF t) (ht' : AscF t') {p : List UInt8} (hm : ∀ x, x ∈ t' ↔ x ∈ t ∧ x.1 ≠ p) (q : List UInt8) : getT t' q = if q = p then none else getT t q := by
  refine Option.ext fun d' => ?_
  rw [getT_iff ht', hm]
  by_cases h : q = p
  · subst h
    rw [if_pos rfl]
    constructor
    · rintro ⟨_, e⟩; exact absurd rfl e
    · intro e; cases e
  · rw [if_neg h, getT_iff ht]
    exact ⟨fun e => e.1, fun e => ⟨e, h⟩⟩
theorem contP_ok {t : List Fi} {f : List UInt8} (ht : ∀ g ∈ t, g.1.length ≤ 1000000) (hf : f.length ≤ 1000000) (hl : t.length < 1000000000) : slices_ContainsFunc_File_tree_Put_1 (t, f) = some (t.any fun g => clashB g.1 f) := by
  unfold slices_ContainsFunc_File_tree_Put_1
  have : slices_IndexFunc_File_tree_Put_1 (t, f) = some (idxP (fun g : Fi => clashB g.1 f) t 0) := by
    unfold slices_IndexFunc_File_tree_Put_1
    refine index_loop t (fun x3 => tree_Put_1 (x3.1, (x3.2, f))) (fun g => clashB g.1 f) hl fun x hx => ?_
    unfold tree_Put_1
    show (path_Clash (x.1, f)).bind _ = _
    rw [clash_ok (ht x hx) hf]; rfl
  show (slices_IndexFunc_File_tree_Put_1 (t, f)).bind _ = _
  rw [this]
  show some _ = _
  rw [idxP_any]
theorem under_self (p : List UInt8) : underB p p = false := by
  cases h : underB p p with
  | false => rfl
  | true => have := under_less h; rw [less_irrefl] at this; cases this
/-- What a change of a tree comes to. -/
structure Ok (t t' : List Fi) (p : List UInt8) (o : Option (List UInt8)) : Prop where
  x : TreeX t'
  g : ∀ q, getT t' q = if q = p then o else getT t q
theorem put_ok {t : List Fi} {p : List UInt8} (d : List UInt8) (hb : ∀ g ∈ t, g.1.length ≤ 1000000) (hR : TreeX t) (hp : p.length ≤ 1000000) :
    ∃ y, tree_Put t p d = some y ∧ ((y.2 ≠ 0 ∧ y.1 = []) ∨ (y.2 = 0 ∧ path_Right p = some true ∧ Ok t y.1 p (some d))) ∧ (path_Right p = some true → (∀ g ∈ t, clashB g.1 p = false) → d.length ≤ 600 → (getT t p = none → t.length < 16) → y.2 = 0) := by
  have hl := hR.len
  have asc := treeX_asc hR
  obtain ⟨A, C, B, is, hABC, hA, hB, hC, hpl⟩ := split_at asc (by omega) p
  obtain ⟨b, hb1⟩ := pathRight_ends p hp
  unfold tree_Put
  rw [treeX_back hb hR, Option.bind_some, if_neg (by simp), hpl, Option.bind_some, hb1, Option.bind_some]
  cases b with
  | false => exact ⟨_, rfl, .inl ⟨by simp, rfl⟩, fun h => by simp at h⟩
  | true =>
    rw [if_neg (by simp), contP_ok hb hp (by omega), Option.bind_some]
    by_cases hc : (t.any fun g => clashB g.1 p) = true
    · rw [if_pos hc]
      refine ⟨_, rfl, .inl ⟨by simp, rfl⟩, fun _ h => ?_⟩
      obtain ⟨g, hg, hg2⟩ := List.any_eq_true.1 hc
      rw [h g hg] at hg2; cases hg2
    · rw [if_neg hc]
      have hcl : ∀ g ∈ t, clashB g.1 p = false := fun g hg => by
        cases e : clashB g.1 p with
        | false => rfl
        | true => exact absurd (List.any_eq_true.2 ⟨g, hg, e⟩) hc
      have hAB := asc
      rw [hABC] at hAB
      have asc' := asc_put (d := d) hA hB (asc_cut hAB)
      have memT : ∀ x : Fi, x ∈ A ++ [(p, d)] ++ B ↔ x = (p, d) ∨ (x ∈ t ∧ x.1 ≠ p) := by
        intro x
        rw [hABC]
        simp only [List.mem_append, List.mem_singleton]
        constructor
        · rintro ((h | h) | h)
          · exact .inr ⟨.inl (.inl h), less_ne (hA x h)⟩
          · exact .inl h
          · exact .inr ⟨.inr h, fun e => less_ne (hB x h) e.symm⟩
        · rintro (h | ⟨(h | h) | h, hne⟩)
          · exact .inl (.inr h)
          · exact .inl (.inl h)
          · rcases hC with ⟨_, rfl⟩ | ⟨_, d0, rfl⟩
            · cases h
            · simp at h; subst h; exact absurd rfl hne
          · exact .inr h
      have hgn : getT t p = none ↔ is = false := by
        rw [getT_none]
        rcases hC with ⟨rfl, rfl⟩ | ⟨rfl, d0, rfl⟩
        · refine ⟨fun _ => rfl, fun _ f hf => ?_⟩
          rw [hABC] at hf
          simp at hf
          rcases hf with h | h
          · exact less_ne (hA f h)
          · exact fun e => less_ne (hB f h) e.symm
        · refine ⟨fun h => absurd rfl (h (p, d0) (by rw [hABC]; simp)), fun h => by cases h⟩
      have hlen : t.length = A.length + C.length + B.length := by rw [hABC]; simp; omega
      by_cases h600 : 600 < d.length ∨ (is = false ∧ 16 ≤ t.length)
      · rw [if_pos h600]
        refine ⟨_, rfl, .inl ⟨by simp, rfl⟩, fun _ _ h6 h16 => ?_⟩
        rcases h600 with h | ⟨h, h'⟩
        · omega
        · have := h16 (hgn.2 h); omega
      · rw [if_neg h600]
        have hd6 : d.length ≤ 600 := by
          rcases Nat.lt_or_ge 600 d.length with h | h
          · exact absurd (.inl h) h600
          · exact h
        have hX : TreeX (A ++ [(p, d)] ++ B) := by
          refine ⟨?_, fun f hf => ?_, fun f hf => ?_, fun i hi => up_of asc' i hi, fun f hf g hg => ?_⟩
          · simp
            rcases hC with ⟨rfl, rfl⟩ | ⟨rfl, d0, rfl⟩
            · have : ¬ 16 ≤ t.length := fun h => h600 (.inr ⟨rfl, h⟩)
              simp at hlen; omega
            · simp at hlen; omega
          · rcases (memT f).1 hf with rfl | ⟨h, _⟩
            · exact hb1
            · exact hR.path f h
          · rcases (memT f).1 hf with rfl | ⟨h, _⟩
            · exact hd6
            · exact hR.data f h
          · have cl : ∀ z ∈ t, underB z.1 p = false ∧ underB p z.1 = false := fun z hz => by
              have := hcl z hz
              unfold clashB at this
              simpa using this
            rcases (memT f).1 hf with rfl | ⟨h, _⟩ <;> rcases (memT g).1 hg with rfl | ⟨h', _⟩
            · exact under_self _
            · exact (cl g h').2
            · exact (cl f h).1
            · exact hR.no f h g h'
        have key : ∀ y1, y1 = A ++ [(p, d)] ++ B → ∃ y, some (y1, (0 : Int)) = some y ∧ ((y.2 ≠ 0 ∧ y.1 = []) ∨ (y.2 = 0 ∧ some true = some true ∧ Ok t y.1 p (some d))) ∧ (some true = some true → (∀ g ∈ t, clashB g.1 p = false) → d.length ≤ 600 → (getT t p = none → t.length < 16) → y.2 = 0) := by
          rintro _ rfl
          exact ⟨_, rfl, .inr ⟨rfl, rfl, hX, getT_put asc asc' memT⟩, fun _ _ _ _ => rfl⟩
        rcases hC with ⟨rfl, rfl⟩ | ⟨rfl, d0, rfl⟩
        · rw [if_neg (by simp)]
          refine key _ ?_
          rw [hABC]
          simp
        · rw [if_pos rfl]
          refine key _ ?_
          rw [hABC]
          simp
theorem drop_ok {t : List Fi} (p : List UInt8) (hb : ∀ g ∈ t, g.1.length ≤ 1000000) (hR : TreeX t) :
    ∃ y, tree_Drop t p = some y ∧ ((y.2 ≠ 0 ∧ y.1 = [] ∧ getT t p = none) ∨ (y.2 = 0 ∧ (getT t p).isSome = true ∧ Ok t y.1 p none)) := by
  have hl := hR.len
  have asc := treeX_asc hR
  obtain ⟨A, C, B, is, hABC, hA, hB, hC, hpl⟩ := split_at asc (by omega) p
  unfold tree_Drop
  rw [treeX_back hb hR, Option.bind_some, if_neg (by simp), hpl, Option.bind_some]
  have hAB := asc
  rw [hABC] at hAB
  have asc' := asc_cut hAB
  rcases hC with ⟨rfl, rfl⟩ | ⟨rfl, d0, rfl⟩
  · rw [if_pos (by simp)]
    refine ⟨_, rfl, .inl ⟨by simp, rfl, getT_none.2 fun f hf => ?_⟩⟩
    rw [hABC] at hf
    simp at hf
    rcases hf with h | h
    · exact less_ne (hA f h)
    · exact fun e => less_ne (hB f h) e.symm
  · rw [if_neg (by simp)]
    have he : t.take ((A.length : Int)).toNat ++ t.drop ((A.length : Int).toNat + 1) = A ++ B := by
      rw [hABC]; simp
    have memT : ∀ x : Fi, x ∈ A ++ B ↔ x ∈ t ∧ x.1 ≠ p := by
      intro x
      rw [hABC]
      simp only [List.mem_append, List.mem_singleton]
      constructor
      · rintro (h | h)
        · exact ⟨.inl (.inl h), less_ne (hA x h)⟩
        · exact ⟨.inr h, fun e => less_ne (hB x h) e.symm⟩
      · rintro ⟨(h | h) | h, hne⟩
        · exact .inl h
        · subst h; exact absurd rfl hne
        · exact .inr h
    refine ⟨_, rfl, .inr ⟨rfl, ?_, ?_⟩⟩
    · rw [(getT_iff asc (q := p) (d := d0)).2 (by rw [hABC]; simp)]; rfl
    · show Ok t (t.take ((A.length : Int)).toNat ++ t.drop ((A.length : Int).toNat + 1)) p none
      rw [he]
      refine ⟨⟨?_, fun f hf => hR.path f ((memT f).1 hf).1, fun f hf => hR.data f ((memT f).1 hf).1, fun i hi => up_of asc' i hi, fun f hf g hg => hR.no f ((memT f).1 hf).1 g ((memT g).1 hg).1⟩, getT_drop asc asc' memT⟩
      have hlen : t.length = A.length + 1 + B.length := by rw [hABC]; simp; omega
      simp; omega
end Go.Proofs.W.Q11
